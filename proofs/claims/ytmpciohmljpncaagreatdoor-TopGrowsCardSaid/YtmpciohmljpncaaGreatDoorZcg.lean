/- Merged texts (CfH, CfG). -/
import Derived.Test.YtmpciohmljpncaaGreatDoorZci
namespace Go.Proofs.YtmpciohmljpncaaGreatDoor
open Go.ChangeShapes Go.WideShapes Go.ChangeAt Go.RowKit Go.Lib Go.Shelf
set_option maxRecDepth 100000 in
set_option maxHeartbeats 16000000 in
theorem conf_tail10 (L : List Int) (a : Option Addr) (c : Nat) (w W : World) (b5 : Nat) (x : Nat → Value) (e0 : x 0 = .slice a L.length c) (e2 : x 2 = .pointer (some ⟨w.heap.size, 0, none⟩)) (e4 : x 4 = .int .i64 (svcsM L : Nat)) (e5 : x 5 = .pointer (some ⟨b5, 0, none⟩)) (e11 : x 11 = .int .i64 (pk L 7 : Nat)) (c1 : ConfD) (hcore : c1.cor2 = confC L 0) (hcs : CS w W w.heap.size b5 c1) (hs : Ints w (.slice a L.length c) L) (hL : ∀ x ∈ L, I64 x) :
  Code.wp Tryz.prog (confTail 10) (bodyPost Tryz.prog Tryz.f4 (ConfP L w)) ⟨frameOf 236 x, []⟩ W := by
 conv => arg 2; whnf
 rw [frame236]
 simp only [e0, e2, e4, e5, e11]
 clear e0 e2 e4 e5 e11
 have hsW := hs.ext hcs.ext
 have hcap := hsW.cap
 have HS := hide hs
 have HL := hide hL
 have HSW := hide hsW
 have HCS := hide hcs
 have HCO := hide hcore
 obtain ⟨-, hc1, hc2⟩ := hcap
 have hc1z : (L.length : Int) ≤ c := by omega
 clear hs hL hsW hcs hcore
 go_upto_region 23 with (fail)
 go_cut [12] from 185 to 191 (fun s12 w' => ∃ (xa : Option Addr) (xc : Nat) (Rs : List RuleD), s12 = .slice xa Rs.length xc ∧ Hid (Rs.map RuleD.core = genRs (L.drop (min L.length 9)) (rulesN (L.drop (min L.length 9)))) ∧ Hid (w'.ownsRow w.heap.size 57 19 (.slice xa Rs.length xc) Rs.length (Rs.flatMap encR)) ∧ Hid (∀ r ∈ Rs, RuleOwn w.heap.size w' r) ∧ Ext W w')
 case first =>
  by_cases h9 : 9 < L.length
  ·obtain ⟨b, off, rfl, hsl⟩ := SlI_drop HSW.out 9 h9
   have hru := rules_any (L.drop 9) _ W hsl (fun x hx => HL.out x (List.mem_of_mem_drop hx))
   have hmin : min (L.length : Int) 9 = 9 := by omega
   have hmn : min L.length 9 = 9 := by omega
   have h9z : (9 : Int) ≤ L.length := by omega
   have h9n : 9 ≤ L.length := by omega
   have hc9 : ¬ c = 9 := by omega
   have h9c : 9 ≤ c := by omega
   have HRU := hide hru
   have HMN := hide hmn
   clear hru hmn hsl
   go_wp2_with fail
   refine HRU.out.mono ?_
   rintro e w1 ⟨v1, Rs, rfl, hcore, hown1, hros, E1⟩
   obtain ⟨xa, xc, rfl⟩ := owns_shape hown1
   have HC := hide hcore
   have HR := hide (owns_le hown1 HCS.out.ext.size)
   have HO := hide (fun r hr => (hros r hr).mono HCS.out.ext.size : ∀ r ∈ Rs, RuleOwn w.heap.size w1 r)
   have HE1 := hide E1
   clear hcore hown1 hros E1 HRU
   go_wp2
   go_meet
   case rel => exact ⟨xa, xc, Rs, rfl, by rw [HMN.out]; exact HC.out, HR.out, HO.out, HE1.out⟩
  ·have hmin : min (L.length : Int) 9 = L.length := by omega
   have hmn : min L.length 9 = L.length := by omega
   have HMN := hide hmn
   have hru : ∀ (aa : Option Addr) (cc : Nat), cc ≤ 9223372036854775807 → Calls Tryz.prog 10 #[.slice aa 0 cc] W fun e w' => ∃ (v' : Value) (Rs : List RuleD), e = .returned v' ∧ Rs.map RuleD.core = genRs [] (rulesN []) ∧ w'.ownsRow W.heap.size 57 19 v' Rs.length (Rs.flatMap encR) ∧ (∀ r ∈ Rs, RuleOwn W.heap.size w' r) ∧ Ext W w' := fun aa cc hcc =>
    rules_any [] _ W ⟨by simp, aa, cc, rfl, by simp; exact hcc, fun i x hi => by simp at hi⟩ (fun x hx => by cases hx)
   have HRU := hide hru
   clear hmn hru
   by_cases hcc : c = L.length
   ·subst hcc
    go_wp2_with fail
    refine (HRU.out _ _ (by omega)).mono ?_
    rintro e w1 ⟨v1, Rs, rfl, hcore, hown1, hros, E1⟩
    obtain ⟨xa, xc, rfl⟩ := owns_shape hown1
    have HC := hide hcore
    have HR := hide (owns_le hown1 HCS.out.ext.size)
    have HO := hide (fun r hr => (hros r hr).mono HCS.out.ext.size : ∀ r ∈ Rs, RuleOwn w.heap.size w1 r)
    have HE1 := hide E1
    clear hcore hown1 hros E1 HRU
    go_wp2
    go_meet
    case rel => exact ⟨xa, xc, Rs, rfl, by rw [HMN.out, List.drop_length]; exact HC.out, HR.out, HO.out, HE1.out⟩
   ·go_wp2_with fail
    refine (HRU.out _ _ (by omega)).mono ?_
    rintro e w1 ⟨v1, Rs, rfl, hcore, hown1, hros, E1⟩
    obtain ⟨xa, xc, rfl⟩ := owns_shape hown1
    have HC := hide hcore
    have HR := hide (owns_le hown1 HCS.out.ext.size)
    have HO := hide (fun r hr => (hros r hr).mono HCS.out.ext.size : ∀ r ∈ Rs, RuleOwn w.heap.size w1 r)
    have HE1 := hide E1
    clear hcore hown1 hros E1 HRU
    go_wp2
    go_meet
    case rel => exact ⟨xa, xc, Rs, rfl, by rw [HMN.out, List.drop_length]; exact HC.out, HR.out, HO.out, HE1.out⟩
 case rest =>
  obtain ⟨xa, xc, Rs, rfl, hrc, hrs, hro, hE⟩ := hcut
  (try simp only [Exit.inBlock, Exit.then])
  apply_assumption
  exact of_frame236 _ rfl (conf_tail11 L a c w wc b5 _ xa xc Rs rfl rfl rfl rfl rfl rfl c1 HCO.out (HCS.out.keep hE) hrc.out hrs.out hro.out HS.out HL.out)
end Go.Proofs.YtmpciohmljpncaaGreatDoor
namespace Go.Proofs.YtmpciohmljpncaaGreatDoor
open Go.ChangeShapes Go.WideShapes Go.ChangeAt Go.RowKit Go.Lib Go.Shelf
theorem CS.setT {w0 w : World} {b2 b5 : Nat} {c : ConfD} (h : CS w0 w b2 b5 c) (x : RateD) : CS w0 ((w.alloc (.cells (encT x).toArray 43)).setCell ⟨b5, 3, none⟩ (.slice (some ⟨w.heap.size, 0, none⟩) 1 1)) b2 b5 { c with tv := .slice (some ⟨w.heap.size, 0, none⟩) 1 1, T := [x] } := by
 have hk := h.keep ((Below.refl _ w).alloc (Nat.le_refl _) (.cells (encT x).toArray 43))
 have ho := owns_le (World.ownsRow_lit (base := w.heap.size) (e := 43) (size := 3) w (encT x).toArray 1 (Nat.le_refl _) (by unfold maxLen; omega) rfl) h.ext.size
 refine hk.set 3 _ _ rfl ⟨hk.own.s, hk.own.k, hk.own.e, hk.own.r, hk.own.rr, ?_⟩
 simpa using ho
theorem ConfOwn.same {B : Nat} {w : World} {c c' : ConfD} (h : ConfOwn B w c) (e1 : c'.sv = c.sv) (e2 : c'.S = c.S) (e3 : c'.ev = c.ev) (e4 : c'.E = c.E) (e5 : c'.rv = c.rv) (e6 : c'.R = c.R) (e7 : c'.tv = c.tv) (e8 : c'.T = c.T) : ConfOwn B w c' := by
 refine ⟨by rw [e1, e2]; exact h.s, by rw [e2]; exact h.k, by rw [e3, e4]; exact h.e, by rw [e5, e6]; exact h.r, by rw [e6]; exact h.rr, by rw [e7, e8]; exact h.t⟩
theorem CS.setW {w0 w : World} {b2 b5 : Nat} {c2 : ConfD} (h0 : CS w0 w b2 b5 c2) (N8 : Nat) : CS w0 (w.setCells b5 4 [.int .i64 (1 + (N8 : Int) % 4), .int .i64 (5 + (N8 : Int) / 4 % 20), .int .i64 ((N8 : Int) / 80 % 3 * 8), .int .i64 ((N8 : Int) / 240 % 3 * 10), .int .i64 (shareN (N8 / 720 % 5)), .int .i64 (1 + (N8 : Int) / 3600 % 20), .int .i64 ((1 + (N8 : Int) / 3600 % 20) * topN (N8 / 72000 % 4))]) b2 b5 ({ { { { { { { c2 with w0 := 1 + (N8 : Int) % 4 } with w1 := 5 + (N8 : Int) / 4 % 20 } with w2 := (N8 : Int) / 80 % 3 * 8 } with w3 := (N8 : Int) / 240 % 3 * 10 } with w4 := shareN (N8 / 720 % 5) } with w5 := 1 + (N8 : Int) / 3600 % 20 } with w6 := (1 + (N8 : Int) / 3600 % 20) * topN (N8 / 72000 % 4) }) := by
 have h1 := h0.set 4 (.int .i64 (1 + (N8 : Int) % 4)) ({ c2 with w0 := 1 + (N8 : Int) % 4 }) rfl (h0.own.same rfl rfl rfl rfl rfl rfl rfl rfl)
 have h2 := h1.set 5 (.int .i64 (5 + (N8 : Int) / 4 % 20)) ({ { c2 with w0 := 1 + (N8 : Int) % 4 } with w1 := 5 + (N8 : Int) / 4 % 20 }) rfl (h1.own.same rfl rfl rfl rfl rfl rfl rfl rfl)
 have h3 := h2.set 6 (.int .i64 ((N8 : Int) / 80 % 3 * 8)) ({ { { c2 with w0 := 1 + (N8 : Int) % 4 } with w1 := 5 + (N8 : Int) / 4 % 20 } with w2 := (N8 : Int) / 80 % 3 * 8 }) rfl (h2.own.same rfl rfl rfl rfl rfl rfl rfl rfl)
 have h4 := h3.set 7 (.int .i64 ((N8 : Int) / 240 % 3 * 10)) ({ { { { c2 with w0 := 1 + (N8 : Int) % 4 } with w1 := 5 + (N8 : Int) / 4 % 20 } with w2 := (N8 : Int) / 80 % 3 * 8 } with w3 := (N8 : Int) / 240 % 3 * 10 }) rfl (h3.own.same rfl rfl rfl rfl rfl rfl rfl rfl)
 have h5 := h4.set 8 (.int .i64 (shareN (N8 / 720 % 5))) ({ { { { { c2 with w0 := 1 + (N8 : Int) % 4 } with w1 := 5 + (N8 : Int) / 4 % 20 } with w2 := (N8 : Int) / 80 % 3 * 8 } with w3 := (N8 : Int) / 240 % 3 * 10 } with w4 := shareN (N8 / 720 % 5) }) rfl (h4.own.same rfl rfl rfl rfl rfl rfl rfl rfl)
 have h6 := h5.set 9 (.int .i64 (1 + (N8 : Int) / 3600 % 20)) ({ { { { { { c2 with w0 := 1 + (N8 : Int) % 4 } with w1 := 5 + (N8 : Int) / 4 % 20 } with w2 := (N8 : Int) / 80 % 3 * 8 } with w3 := (N8 : Int) / 240 % 3 * 10 } with w4 := shareN (N8 / 720 % 5) } with w5 := 1 + (N8 : Int) / 3600 % 20 }) rfl (h5.own.same rfl rfl rfl rfl rfl rfl rfl rfl)
 have h7 := h6.set 10 (.int .i64 ((1 + (N8 : Int) / 3600 % 20) * topN (N8 / 72000 % 4))) ({ { { { { { { c2 with w0 := 1 + (N8 : Int) % 4 } with w1 := 5 + (N8 : Int) / 4 % 20 } with w2 := (N8 : Int) / 80 % 3 * 8 } with w3 := (N8 : Int) / 240 % 3 * 10 } with w4 := shareN (N8 / 720 % 5) } with w5 := 1 + (N8 : Int) / 3600 % 20 } with w6 := (1 + (N8 : Int) / 3600 % 20) * topN (N8 / 72000 % 4) }) rfl (h6.own.same rfl rfl rfl rfl rfl rfl rfl rfl)
 exact h7
set_option maxRecDepth 100000 in
set_option maxHeartbeats 16000000 in
theorem conf_tail7 (L : List Int) (a : Option Addr) (c : Nat) (w W : World) (b5 : Nat) (x : Nat → Value) (e0 : x 0 = .slice a L.length c) (e2 : x 2 = .pointer (some ⟨w.heap.size, 0, none⟩)) (e4 : x 4 = .int .i64 (svcsM L : Nat)) (e5 : x 5 = .pointer (some ⟨b5, 0, none⟩)) (c1 : ConfD) (hcore : c1.cor2 = confB L (endsM L)) (hcs : CS w W w.heap.size b5 c1) (hs : Ints w (.slice a L.length c) L) (hL : ∀ x ∈ L, I64 x) :
  Code.wp Tryz.prog (confTail 7) (bodyPost Tryz.prog Tryz.f4 (ConfP L w)) ⟨frameOf 236 x, []⟩ W := by
 conv => arg 2; whnf
 rw [frame236]
 simp only [e0, e2, e4, e5]
 clear e0 e2 e4 e5
 have HP7 := hide (fun X (hX : Ext w X) => (pick_any L 7 (.slice a L.length c) X (hs.ext hX) hL : Calls Tryz.prog 8 #[.slice a L.length c, .int .i64 7] X _))
 have HP8 := hide (fun X (hX : Ext w X) => (pick_any L 8 (.slice a L.length c) X (hs.ext hX) hL : Calls Tryz.prog 8 #[.slice a L.length c, .int .i64 8] X _))
 have HS := hide hs
 have HL := hide hL
 have HCS := hide hcs
 have HCO := hide hcore
 have p7 := pk_lt L 7
 have p8 := pk_lt L 8
 obtain ⟨N7, hN7⟩ : ∃ N, pk L 7 = N := ⟨_, rfl⟩
 obtain ⟨N8, hN8⟩ : ∃ N, pk L 8 = N := ⟨_, rfl⟩
 rw [hN7] at HP7 p7
 rw [hN8] at HP8 p8
 have HN7 := hide hN7
 have HN8 := hide hN8
 have p7z : (N7 : Int) < 1000000 := by omega
 have HWA := hide (fun X => watch_any N8 X p8)
 clear hcs hN7 hN8 hs hL hcore
 go_wp2_with fail
 refine (HP7.out _ HCS.out.ext).mono ?_
 rintro e w9 ⟨rfl, rfl⟩
 have tf0 : (N7 : Int).tmod 9 = (N7 : Int) % 9 := Int.tmod_eq_emod_of_nonneg (by omega)
 have tf1 : IntKind.i64.wrap ((N7 : Int) % 9) = (N7 : Int) % 9 := IntWalk.i64_in _ (by omega)
 have tf2 : IntKind.i64.wrap (2 + (N7 : Int) % 9) = 2 + (N7 : Int) % 9 := IntWalk.i64_in _ (by omega)
 have tf3 : (N7 : Int).tdiv 9 = (N7 : Int) / 9 := Int.tdiv_eq_ediv_of_nonneg (by omega)
 have tf4 : IntKind.i64.wrap ((N7 : Int) / 9) = (N7 : Int) / 9 := IntWalk.i64_in _ (by omega)
 have tf5 : ((N7 : Int) / 9).tmod 40 = (N7 : Int) / 9 % 40 := Int.tmod_eq_emod_of_nonneg (by omega)
 have tf6 : IntKind.i64.wrap ((N7 : Int) / 9 % 40) = (N7 : Int) / 9 % 40 := IntWalk.i64_in _ (by omega)
 have tf7 : IntKind.i64.wrap (10 + (N7 : Int) / 9 % 40) = 10 + (N7 : Int) / 9 % 40 := IntWalk.i64_in _ (by omega)
 have tf8 : (N7 : Int).tdiv 360 = (N7 : Int) / 360 := Int.tdiv_eq_ediv_of_nonneg (by omega)
 have tf9 : IntKind.i64.wrap ((N7 : Int) / 360) = (N7 : Int) / 360 := IntWalk.i64_in _ (by omega)
 have tf10 : ((N7 : Int) / 360).tmod 2 = (N7 : Int) / 360 % 2 := Int.tmod_eq_emod_of_nonneg (by omega)
 have tf11 : IntKind.i64.wrap ((N7 : Int) / 360 % 2) = (N7 : Int) / 360 % 2 := IntWalk.i64_in _ (by omega)
 have tf12 : IntKind.i64.wrap (1 + (N7 : Int) / 360 % 2) = 1 + (N7 : Int) / 360 % 2 := IntWalk.i64_in _ (by omega)
 go_upto_region 21 with (fail)
 have hC3 := HCS.out.setT (⟨2 + (N7 : Int) % 9, 10 + (N7 : Int) / 9 % 40, 1 + (N7 : Int) / 360 % 2⟩ : RateD)
 have c3 : ∀ o, (W.alloc o).cell? ⟨b5, 3, none⟩ = some c1.tv := fun o => (((Below.refl _ W).alloc (Nat.le_refl _) o).cell (p := ⟨b5, 3, none⟩) HCS.out.box.lt).trans (HCS.out.box.cell 3 _ rfl)
 have z3 : ∀ o, (W.alloc o).frozen? ⟨b5, 3, none⟩ = false := fun o => (((Below.refl _ W).alloc (Nat.le_refl _) o).frozen (p := ⟨b5, 3, none⟩) HCS.out.box.lt).trans (HCS.out.box.frozen 3)
 have hc3 := c3 (.cells #[.int .i64 (2 + (N7 : Int) % 9), .int .i64 (10 + (N7 : Int) / 9 % 40), .int .i64 (1 + (N7 : Int) / 360 % 2)] 43)
 have hz3 := z3 (.cells #[.int .i64 (2 + (N7 : Int) % 9), .int .i64 (10 + (N7 : Int) / 9 % 40), .int .i64 (1 + (N7 : Int) / 360 % 2)] 43)
 have HC3 := hide hC3
 clear c3 z3 hC3
 refine wp_region_lit ?_
 refine wpList_plain rfl fun K hK => ?_
 go_simp
 refine hK _ _ ?_
 refine wpList_plain rfl fun K hK => ?_
 go_simp
 refine hK _ _ ?_
 refine wpList_plain rfl fun K hK => ?_
 go_simp
 refine hK _ _ ?_
 refine wpList_plain rfl fun K hK => ?_
 go_simp
 refine hK _ _ ?_
 refine wpList_plain rfl fun K hK => ?_
 go_simp
 refine hK _ _ ?_
 refine wpList_plain rfl fun K hK => ?_
 go_simp
 refine hK _ _ ?_
 refine wpList_plain rfl fun K hK => ?_
 go_simp
 refine hK _ _ ?_
 refine wpList_plain rfl fun K hK => ?_
 go_simp
 refine hK _ _ ?_
 refine wpList_plain rfl fun K hK => ?_
 go_simp
 refine hK _ _ ?_
 refine wpList_plain rfl fun K hK => ?_
 go_simp
 refine hK _ _ ?_
 refine wpList_plain rfl fun K hK => ?_
 go_simp
 refine hK _ _ ?_
 refine wpList_plain rfl fun K hK => ?_
 go_simp
 refine hK _ _ ?_
 refine wpList_plain rfl fun K hK => ?_
 go_simp
 refine hK _ _ ?_
 refine wpList_plain rfl fun K hK => ?_
 go_simp
 refine hK _ _ ?_
 refine wpList_plain rfl fun K hK => ?_
 go_simp
 refine hK _ _ ?_
 refine wpList_nil ?_
 obtain ⟨c2, hc2⟩ : ∃ c2 : ConfD, ({ c1 with tv := .slice (some ⟨W.heap.size, 0, none⟩) 1 1, T := [(⟨2 + (N7 : Int) % 9, 10 + (N7 : Int) / 9 % 40, 1 + (N7 : Int) / 360 % 2⟩ : RateD)] } : ConfD) = c2 := ⟨_, rfl⟩
 have hC3 := HC3.out
 rw [hc2] at hC3
 have hco2 : c2.cor2 = { confB L (endsM L) with T := [(⟨2 + (N7 : Int) % 9, 10 + (N7 : Int) / 9 % 40, 1 + (N7 : Int) / 360 % 2⟩ : RateD)] } := by rw [← hc2, ← HCO.out]; rfl
 change CS w ((W.alloc (.cells #[.int .i64 (2 + (N7 : Int) % 9), .int .i64 (10 + (N7 : Int) / 9 % 40), .int .i64 (1 + (N7 : Int) / 360 % 2)] 43)).setCell ⟨b5, 3, none⟩ (.slice (some ⟨W.heap.size, 0, none⟩) 1 1)) w.heap.size b5 c2 at hC3
 generalize (W.alloc (.cells #[.int .i64 (2 + (N7 : Int) % 9), .int .i64 (10 + (N7 : Int) / 9 % 40), .int .i64 (1 + (N7 : Int) / 360 % 2)] 43)).setCell ⟨b5, 3, none⟩ (.slice (some ⟨W.heap.size, 0, none⟩) 1 1) = W3 at hC3 ⊢
 have HC2 := hide hC3
 have HCO2 := hide hco2
 clear hC3 hco2 hc2 HC3 hc3 hz3 tf0 tf1 tf2 tf3 tf4 tf5 tf6 tf7 tf8 tf9 tf10 tf11 tf12
 go_upto_region 22 with (fail)
 refine wp_region_lit ?_
 refine wpList_plain rfl fun K hK => ?_
 go_simp
 refine hK _ _ ?_
 refine wpList_plain rfl fun K hK => ?_
 go_simp
 refine (HP8.out _ HC2.out.ext).mono ?_
 rintro e w9 ⟨rfl, rfl⟩
 refine hK _ _ ?_
 refine wpList_plain rfl fun K hK => ?_
 go_simp
 refine (HWA.out _).mono ?_
 rintro e W4 ⟨rfl, E4⟩
 refine hK _ _ ?_
 refine wpList_plain rfl fun K hK => ?_
 go_simp
 refine hK _ _ ?_
 have hC4 := HC2.out.keep E4
 have hC5 := hC4.setW N8
 have hth : W4.there b5 4 7 := fun j hj => by
  have hbx : W4.heap[b5]? = _ := hC4.box
  refine ⟨?_, by simp [World.frozen?, hbx]⟩
  simp only [World.cell?, hbx]
  simp [encC]
  omega
 refine wpList_store_mid rfl 28 (.tmp 184) (.tmp 183) rfl b5 4 #[.int .i64 (1 + (N8 : Int) % 4), .int .i64 (5 + (N8 : Int) / 4 % 20), .int .i64 ((N8 : Int) / 80 % 3 * 8), .int .i64 ((N8 : Int) / 240 % 3 * 10), .int .i64 (shareN (N8 / 720 % 5)), .int .i64 (1 + (N8 : Int) / 3600 % 20), .int .i64 ((1 + (N8 : Int) / 3600 % 20) * topN (N8 / 72000 % 4))] rfl rfl hth Tryz.watchSize (by simp [Value.oneCell']) ?_
 refine wpList_nil ?_
 show Exit.then _ _ _ _ (W4.setCells b5 4 [.int .i64 (1 + (N8 : Int) % 4), .int .i64 (5 + (N8 : Int) / 4 % 20), .int .i64 ((N8 : Int) / 80 % 3 * 8), .int .i64 ((N8 : Int) / 240 % 3 * 10), .int .i64 (shareN (N8 / 720 % 5)), .int .i64 (1 + (N8 : Int) / 3600 % 20), .int .i64 ((1 + (N8 : Int) / 3600 % 20) * topN (N8 / 72000 % 4))])
 generalize W4.setCells b5 4 [.int .i64 (1 + (N8 : Int) % 4), .int .i64 (5 + (N8 : Int) / 4 % 20), .int .i64 ((N8 : Int) / 80 % 3 * 8), .int .i64 ((N8 : Int) / 240 % 3 * 10), .int .i64 (shareN (N8 / 720 % 5)), .int .i64 (1 + (N8 : Int) / 3600 % 20), .int .i64 ((1 + (N8 : Int) / 3600 % 20) * topN (N8 / 72000 % 4))] = W5 at hC5 ⊢
 have hco5 : ({ { { { { { { c2 with w0 := 1 + (N8 : Int) % 4 } with w1 := 5 + (N8 : Int) / 4 % 20 } with w2 := (N8 : Int) / 80 % 3 * 8 } with w3 := (N8 : Int) / 240 % 3 * 10 } with w4 := shareN (N8 / 720 % 5) } with w5 := 1 + (N8 : Int) / 3600 % 20 } with w6 := (1 + (N8 : Int) / 3600 % 20) * topN (N8 / 72000 % 4) } : ConfD).cor2 = confC L 0 := by
  show ({ c2.cor2 with w0 := _, w1 := _, w2 := _, w3 := _, w4 := _, w5 := _, w6 := _ } : ConfD) = _
  rw [HCO2.out, ← HN8.out, ← HN7.out]
  rfl
 have HC5 := hide hC5
 have HCO5 := hide hco5
 clear hC5 hco5 hth hC4 E4 HC2 HCO2
 simp only [Act.put]
 (try simp only [Exit.inBlock, Exit.then])
 apply_assumption
 exact of_frame236 _ rfl (conf_tail10 L a c w W5 b5 _ rfl rfl rfl rfl (by rw [HN7.out]; rfl) _ HCO5.out HC5.out HS.out HL.out)
end Go.Proofs.YtmpciohmljpncaaGreatDoor
