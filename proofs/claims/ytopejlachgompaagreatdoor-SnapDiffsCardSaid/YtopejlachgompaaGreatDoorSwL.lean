/- ref16.Less (printed by wip/gen_swl.py). -/
import Derived.Test.YtopejlachgompaaGreatDoorZsf
namespace Go.Proofs.YtopejlachgompaaGreatDoor
open Go.ChangeShapes Go.WideShapes Go.ChangeAt Go.RowKit Go.Lib Go.Shelf
theorem eqE_comm (x y : EndD) : eqE x y = eqE y x := by
 rw [Bool.eq_iff_iff, eqE_iff, eqE_iff]
 exact eq_comm
/-- what stands in the answer when k IDs, and i endpoints at the next one, have been looked at -/
def lessL (p : EndD → Bool) (E : List EndD) (k i : Nat) : List Int := (byId k p E ++ (E.take i).filter (fun e => e.id == ((k + 1 : Nat) : Int) && p e)).map EndD.id
theorem lessL_zero (p : EndD → Bool) (E : List EndD) (k : Nat) : lessL p E k 0 = (byId k p E).map EndD.id := by simp [lessL]
theorem lessL_end (p : EndD → Bool) (E : List EndD) (k : Nat) : lessL p E k E.length = (byId (k + 1) p E).map EndD.id := by
 unfold lessL
 rw [List.take_length, byId_succ]
theorem lessL_step (p : EndD → Bool) (E : List EndD) (k i : Nat) (h : i < E.length) : lessL p E k (i + 1) = if (E[i].id == ((k + 1 : Nat) : Int) && p E[i]) = true then lessL p E k i ++ [E[i].id] else lessL p E k i := by
 unfold lessL
 rw [take_snoc E i h, List.filter_append]
 split
 ·rename_i hh
  simp only [List.filter_cons, hh, if_true, List.filter_nil, ← List.append_assoc, List.map_append, List.map_cons, List.map_nil]
 ·rename_i hh
  simp only [List.filter_cons, hh, List.filter_nil]
  simp
theorem byId_len (p : EndD → Bool) (E : List EndD) : ∀ n, (byId n p E).length ≤ n * E.length
 | 0 => by simp [byId]
 | n + 1 => by
  have := byId_len p E n
  have h2 : (E.filter fun e => e.id == ((n + 1 : Nat) : Int) && p e).length ≤ E.length := List.length_filter_le _ _
  rw [byId_succ, List.length_append, Nat.succ_mul]
  omega
theorem lessL_len (p : EndD → Bool) (E : List EndD) (k i : Nat) (hk : k ≤ 40) (hE : E.length ≤ 40) : (lessL p E k i).length ≤ 1700 := by
 unfold lessL
 rw [List.length_map, List.length_append]
 have h1 := byId_len p E k
 have h2 : ((E.take i).filter fun e => e.id == ((k + 1 : Nat) : Int) && p e).length ≤ E.length := Nat.le_trans (List.length_filter_le _ _) (by rw [List.length_take]; omega)
 have h3 : k * E.length ≤ 40 * 40 := Nat.mul_le_mul hk hE
 omega
set_option maxRecDepth 100000 in
set_option maxHeartbeats 8000000 in
theorem less_any (c d : ConfD) (w : World) (hc : Ends w c.ev c.E) (hd : Ends w d.ev d.E) (hl : c.E.length ≤ 40) (hl2 : d.E.length ≤ 40) :
  Calls Tryz.prog 12 #[c.val, d.val] w fun e w' => ∃ v, e = .returned v ∧ w'.ownsRow w.heap.size 3 1 v ((byId 40 (lacksE d.E) c.E).map EndD.id).length (((byId 40 (lacksE d.E) c.E).map EndD.id).flatMap encI) ∧ Ext w w' := by
 obtain ⟨i0, hi, hz0, hz1, hz2⟩ := info_z' infoI'
 obtain ⟨-, aC, cC, hvC⟩ := hc.shape
 obtain ⟨-, aD, cD, hvD⟩ := hd.shape
 have hx : Ext w ((w.alloc (.cells #[c.sv, c.ev, c.rv, c.tv, .int .i64 c.w0, .int .i64 c.w1, .int .i64 c.w2, .int .i64 c.w3, .int .i64 c.w4, .int .i64 c.w5, .int .i64 c.w6, .int .i64 c.panic, .int .i64 c.low, .int .i64 c.high, .int .i64 c.wait, .int .i64 c.hop, .int .i64 c.life, .int .i64 c.purse, .int .i64 c.horizon, .int .i64 c.sample] 31)).alloc (.cells #[d.sv, d.ev, d.rv, d.tv, .int .i64 d.w0, .int .i64 d.w1, .int .i64 d.w2, .int .i64 d.w3, .int .i64 d.w4, .int .i64 d.w5, .int .i64 d.w6, .int .i64 d.panic, .int .i64 d.low, .int .i64 d.high, .int .i64 d.wait, .int .i64 d.hop, .int .i64 d.life, .int .i64 d.purse, .int .i64 d.horizon, .int .i64 d.sample] 31)) := ((Below.refl _ _).alloc (Nat.le_refl _) _).alloc (Nat.le_of_lt (by simp)) _
 have hsz : ((w.alloc (.cells #[c.sv, c.ev, c.rv, c.tv, .int .i64 c.w0, .int .i64 c.w1, .int .i64 c.w2, .int .i64 c.w3, .int .i64 c.w4, .int .i64 c.w5, .int .i64 c.w6, .int .i64 c.panic, .int .i64 c.low, .int .i64 c.high, .int .i64 c.wait, .int .i64 c.hop, .int .i64 c.life, .int .i64 c.purse, .int .i64 c.horizon, .int .i64 c.sample] 31)).alloc (.cells #[d.sv, d.ev, d.rv, d.tv, .int .i64 d.w0, .int .i64 d.w1, .int .i64 d.w2, .int .i64 d.w3, .int .i64 d.w4, .int .i64 d.w5, .int .i64 d.w6, .int .i64 d.panic, .int .i64 d.low, .int .i64 d.high, .int .i64 d.wait, .int .i64 d.hop, .int .i64 d.life, .int .i64 d.purse, .int .i64 d.horizon, .int .i64 d.sample] 31)).heap.size = w.heap.size + 2 := by simp
 have hb1 : ((w.alloc (.cells #[c.sv, c.ev, c.rv, c.tv, .int .i64 c.w0, .int .i64 c.w1, .int .i64 c.w2, .int .i64 c.w3, .int .i64 c.w4, .int .i64 c.w5, .int .i64 c.w6, .int .i64 c.panic, .int .i64 c.low, .int .i64 c.high, .int .i64 c.wait, .int .i64 c.hop, .int .i64 c.life, .int .i64 c.purse, .int .i64 c.horizon, .int .i64 c.sample] 31)).alloc (.cells #[d.sv, d.ev, d.rv, d.tv, .int .i64 d.w0, .int .i64 d.w1, .int .i64 d.w2, .int .i64 d.w3, .int .i64 d.w4, .int .i64 d.w5, .int .i64 d.w6, .int .i64 d.panic, .int .i64 d.low, .int .i64 d.high, .int .i64 d.wait, .int .i64 d.hop, .int .i64 d.life, .int .i64 d.purse, .int .i64 d.horizon, .int .i64 d.sample] 31)).cell? ⟨w.heap.size, 1, none⟩ = some (.slice aC c.E.length cC) := by rw [← hvC]; simp
 have hb2 : ((w.alloc (.cells #[c.sv, c.ev, c.rv, c.tv, .int .i64 c.w0, .int .i64 c.w1, .int .i64 c.w2, .int .i64 c.w3, .int .i64 c.w4, .int .i64 c.w5, .int .i64 c.w6, .int .i64 c.panic, .int .i64 c.low, .int .i64 c.high, .int .i64 c.wait, .int .i64 c.hop, .int .i64 c.life, .int .i64 c.purse, .int .i64 c.horizon, .int .i64 c.sample] 31)).alloc (.cells #[d.sv, d.ev, d.rv, d.tv, .int .i64 d.w0, .int .i64 d.w1, .int .i64 d.w2, .int .i64 d.w3, .int .i64 d.w4, .int .i64 d.w5, .int .i64 d.w6, .int .i64 d.panic, .int .i64 d.low, .int .i64 d.high, .int .i64 d.wait, .int .i64 d.hop, .int .i64 d.life, .int .i64 d.purse, .int .i64 d.horizon, .int .i64 d.sample] 31)).cell? ⟨w.heap.size + 1, 1, none⟩ = some (.slice aD d.E.length cD) := by rw [← hvD]; simp
 rw [hvC] at hc
 rw [hvD] at hd
 have HC := hide hc
 have HD := hide hd
 clear hc hd hvC hvD
 have hpp : ∀ e, (d.E.any (eqE e)) = !lacksE d.E e := fun e => by unfold lacksE; simp
 have HP := hide hpp
 clear hpp
 obtain ⟨p, hp⟩ : ∃ p, lacksE d.E = p := ⟨_, rfl⟩
 rw [hp] at HP ⊢
 clear hp
 obtain ⟨LL, hLL⟩ : ∃ LL, (byId 40 p c.E).map EndD.id = LL := ⟨_, rfl⟩
 rw [hLL]
 have HLL := hide hLL
 clear hLL
 show Calls Tryz.prog 12 #[.agg #[c.sv, c.ev, c.rv, c.tv, .int .i64 c.w0, .int .i64 c.w1, .int .i64 c.w2, .int .i64 c.w3, .int .i64 c.w4, .int .i64 c.w5, .int .i64 c.w6, .int .i64 c.panic, .int .i64 c.low, .int .i64 c.high, .int .i64 c.wait, .int .i64 c.hop, .int .i64 c.life, .int .i64 c.purse, .int .i64 c.horizon, .int .i64 c.sample], .agg #[d.sv, d.ev, d.rv, d.tv, .int .i64 d.w0, .int .i64 d.w1, .int .i64 d.w2, .int .i64 d.w3, .int .i64 d.w4, .int .i64 d.w5, .int .i64 d.w6, .int .i64 d.panic, .int .i64 d.low, .int .i64 d.high, .int .i64 d.wait, .int .i64 d.hop, .int .i64 d.life, .int .i64 d.purse, .int .i64 d.horizon, .int .i64 d.sample]] w _
 go_enter Tryz.func12, Tryz.ntmps12
 go_wp2_with fail
 generalize (w.alloc (.cells #[c.sv, c.ev, c.rv, c.tv, .int .i64 c.w0, .int .i64 c.w1, .int .i64 c.w2, .int .i64 c.w3, .int .i64 c.w4, .int .i64 c.w5, .int .i64 c.w6, .int .i64 c.panic, .int .i64 c.low, .int .i64 c.high, .int .i64 c.wait, .int .i64 c.hop, .int .i64 c.life, .int .i64 c.purse, .int .i64 c.horizon, .int .i64 c.sample] 31)).alloc (.cells #[d.sv, d.ev, d.rv, d.tv, .int .i64 d.w0, .int .i64 d.w1, .int .i64 d.w2, .int .i64 d.w3, .int .i64 d.w4, .int .i64 d.w5, .int .i64 d.w6, .int .i64 d.panic, .int .i64 d.low, .int .i64 d.high, .int .i64 d.wait, .int .i64 d.hop, .int .i64 d.life, .int .i64 d.purse, .int .i64 d.horizon, .int .i64 d.sample] 31) = W at hx hb1 hb2 hsz ⊢
 generalize c.E = EC at *
 generalize d.E = ED at *
 have HX := hide hx
 have hcl : ∀ X, Ext W X → X.cell? ⟨w.heap.size, 1, none⟩ = some (.slice aC EC.length cC) ∧ X.cell? ⟨w.heap.size + 1, 1, none⟩ = some (.slice aD ED.length cD) := fun X hX => ⟨(hX.cell (p := ⟨w.heap.size, 1, none⟩) (World.block_lt_of_cell? W _ hb1)).trans hb1, (hX.cell (p := ⟨w.heap.size + 1, 1, none⟩) (World.block_lt_of_cell? W _ hb2)).trans hb2⟩
 have HCL := hide hcl
 clear hx hb1 hb2 hcl hsz
 go_loopw [5, 6] (fun v5 v6 wr => ∃ k : Nat, k ≤ 40 ∧ v6 = .int .i64 ((k : Int) + 1) ∧ Hid (wr.ownsRow W.heap.size 3 1 v5 (lessL p EC k 0).length ((lessL p EC k 0).flatMap encI)) ∧ Hid (Ext W wr)) (fun _ i _ => 41 - (intOf i).toNat)
 case atStart => exact ⟨0, by omega, rfl, ⟨rfl, .inl ⟨rfl, rfl⟩⟩, Below.refl _ _⟩
 case round =>
  obtain ⟨k, hk, rfl, ho, hx⟩ := hrel
  have HO := hide ho.out
  have HY := hide hx.out
  clear ho hx
  generalize wr = wo at *
  by_cases hlt : k < 40
  ·have hlez : (k : Int) + 1 ≤ 40 := by omega
   have hwk : IntKind.i64.wrap ((k : Int) + 1 + 1) = ((k + 1 : Nat) : Int) + 1 := by rw [IntKind.wrap_i64]; omega
   have HWK := hide hwk
   clear hwk
   go_wp2_with fail
   go_loopw [5, 7] (fun v5 v7 wr => ∃ i : Nat, i ≤ EC.length ∧ v7 = .int .i64 i ∧ Hid (wr.ownsRow W.heap.size 3 1 v5 (lessL p EC k i).length ((lessL p EC k i).flatMap encI)) ∧ Hid (Ext W wr)) (fun _ i _ => EC.length - (intOf i).toNat)
   case atStart => exact ⟨0, Nat.zero_le _, rfl, HO.out, HY.out⟩
   case round =>
    clear HO HY
    obtain ⟨i, hi2, rfl, ho, hx⟩ := hrel
    have HO := hide ho.out
    have HY := hide hx.out
    clear ho hx
    generalize wr = wp at *
    obtain ⟨q1, q2⟩ := HCL.out wp HY.out
    by_cases hil : i < EC.length
    ·have hiz : (i : Int) < EC.length := by omega
     have hwi : IntKind.i64.wrap ((i : Int) + 1) = ((i + 1 : Nat) : Int) := by rw [IntKind.wrap_i64]; omega
     obtain ⟨b, off, rfl, hbb, c1, c2, c3⟩ := ends_at (HC.out.ext (HX.out.trans HY.out)) i hil
     have hst := lessL_step p EC k i hil
     obtain ⟨x, hx⟩ : ∃ x, EC[i] = x := ⟨_, rfl⟩
     rw [hx] at c1 c2 c3 hst
     obtain ⟨x1, x2, x3⟩ := x
     simp only [] at c1 c2 c3 hst
     have hcast : ((k + 1 : Nat) : Int) = (k : Int) + 1 := by omega
     rw [hcast] at hst
     have HWI := hide hwi
     have HXE := hide hx
     clear hx hwi hcast
     by_cases hid : x1 = (k : Int) + 1
     ·subst hid
      rw [beq_self_eq_true, Bool.true_and] at hst
      have HST := hide hst
      have hxi := HXE.out
      have HXI := hide hxi
      clear hst hxi HXE
      go_wp2_with fail
      go_loopw [8, 9] (fun v8 v9 wr => ∃ j : Nat, j ≤ ED.length ∧ v9 = .int .i64 j ∧ v8 = .bool ((ED.take j).any (eqE ⟨(k : Int) + 1, x2, x3⟩)) ∧ Hid (Ext wp wr)) (fun _ i _ => ED.length - (intOf i).toNat)
      case atStart => exact ⟨0, Nat.zero_le _, rfl, rfl, Below.refl _ _⟩
      case round =>
       obtain ⟨j, hj, rfl, rfl, hx⟩ := hrel
       have HZ := hide hx.out
       clear hx q1 q2 c1 c2 c3
       generalize wr = wq at *
       obtain ⟨q1, q2⟩ := HCL.out wq (HY.out.trans HZ.out)
       obtain ⟨b', off', hba, hbb', c1, c2, c3⟩ := ends_at (HC.out.ext (HX.out.trans (HY.out.trans HZ.out))) i hil
       cases hba
       rw [HXI.out] at c1 c2 c3
       simp only [] at c1 c2 c3
       by_cases hjl : j < ED.length
       ·have hjz : (j : Int) < ED.length := by omega
        have hwj : IntKind.i64.wrap ((j : Int) + 1) = ((j + 1 : Nat) : Int) := by rw [IntKind.wrap_i64]; omega
        obtain ⟨bd, offd, rfl, hbd, e1, e2, e3⟩ := ends_at (HD.out.ext (HX.out.trans (HY.out.trans HZ.out))) j hjl
        have hsj : (ED.take (j + 1)).any (eqE ⟨(k : Int) + 1, x2, x3⟩) = ((ED.take j).any (eqE ⟨(k : Int) + 1, x2, x3⟩) || eqE ED[j] ⟨(k : Int) + 1, x2, x3⟩) := by rw [take_snoc ED j hjl, List.any_append, eqE_comm ED[j]]; simp
        generalize ED[j] = y at e1 e2 e3 hsj
        obtain ⟨y1, y2, y3⟩ := y
        simp only [] at e1 e2 e3
        have hq := eqE_run y1 y2 y3 ((k : Int) + 1) x2 x3
        have hg := endGuard
        obtain ⟨r, hr⟩ : ∃ r, eqE ⟨y1, y2, y3⟩ ⟨(k : Int) + 1, x2, x3⟩ = r := ⟨_, rfl⟩
        rw [hr] at hsj
        simp only [hr] at hq
        generalize (ED.take j).any (eqE ⟨(k : Int) + 1, x2, x3⟩) = h at hsj ⊢
        have HSJ := hide hsj
        have HWJ := hide hwj
        clear hr hsj hwj
        cases h with
        | true =>
         go_upto_region 13 with (fail)
         go_quiet (fail)
         have hwj := HWJ.out
         clear q1 q2 c1 c2 c3 e1 e2 e3 hq HWJ
         go_wp2
         go_roundw
         case rel => exact ⟨j + 1, by omega, by first | rfl | simp, by rw [HSJ.out]; rfl, Below.drewN' HZ.out _⟩
         case measure => simp [intOf] <;> omega
        | false =>
         go_upto_region 13 with (fail)
         go_quiet (fail)
         have hwj := HWJ.out
         clear q1 q2 c1 c2 c3 e1 e2 e3 hq HWJ
         go_wp2
         go_roundw
         case rel => exact ⟨j + 1, by omega, by first | rfl | simp, by rw [HSJ.out]; simp, Below.drewN' HZ.out _⟩
         case measure => simp [intOf] <;> omega
       ·have hjT : j = ED.length := by omega
        subst hjT
        rw [List.take_length, HP.out]
        have hown := owns_ext HO.out HZ.out
        have hll := lessL_len p EC k i hk hl
        have HE := hide (HY.out.trans HZ.out)
        have HST2 := hide HST.out
        have hwi := HWI.out
        obtain ⟨r, hr⟩ : ∃ r, p ⟨(k : Int) + 1, x2, x3⟩ = r := ⟨_, rfl⟩
        rw [hr] at HST2 ⊢
        generalize lessL p EC k i = M at hown hll HST2
        have hws := HE.out.size
        clear HST HZ HY HO c1 c2 c3 HWI
        cases r with
        | true =>
         go_wp2_with (at_builtin; refine wpList_append_own _ (by rfl) _ _ 22 (by rfl) W.heap.size 3 i0 (.int .i64 0) 1 8 Tryz.underlying22 hi hz0 hz1 hz2 rfl (by decide) _ M.length _ (by rfl) (hown.alloc _) ⟨wq.heap.size, 0, none⟩ 1 1 [.int .i64 ((k : Int) + 1)] (by rfl) (by rfl) (cells_new wq [.int .i64 ((k : Int) + 1)] 3) (by simp [Value.oneCell']) (by unfold maxLen; omega) (by omega) (by simp; omega) ?_; intro v2 w2 hown2 hgrow2 _)
         go_roundw
         case rel => exact ⟨i + 1, by omega, by first | rfl | simp, by show World.ownsRow _ _ _ _ _ _ _; rw [HST2.out, if_pos rfl, List.length_append, List.flatMap_append]; exact hown2, ext_app HE.out ((Below.refl _ _).alloc (Nat.le_refl _) _) hown hgrow2⟩
         case measure => simp [intOf] <;> omega
        | false =>
         go_wp2
         go_roundw
         case rel => exact ⟨i + 1, by omega, by first | rfl | simp, by show World.ownsRow _ _ _ _ _ _ _; rw [HST2.out, if_neg (by decide)]; exact hown, HE.out⟩
         case measure => simp [intOf] <;> omega
     ·have hne : (x1 == (k : Int) + 1) = false := by simpa using hid
      have hne2 : (x1 != (k : Int) + 1) = true := by simpa using hid
      rw [hne, Bool.false_and, if_neg (by decide)] at hst
      have HST := hide hst
      have hwi := HWI.out
      clear hst hid hne HXE
      go_wp2
      go_roundw
      case rel => exact ⟨i + 1, by omega, by first | rfl | simp, by show World.ownsRow _ _ _ _ _ _ _; rw [HST.out]; exact HO.out, HY.out⟩
      case measure => simp [intOf] <;> omega
    ·have hie : i = EC.length := by omega
     subst hie
     have h0 := lessL_end p EC k
     rw [← lessL_zero] at h0
     have HO2 := hide (show wp.ownsRow W.heap.size 3 1 _ (lessL p EC (k + 1) 0).length ((lessL p EC (k + 1) 0).flatMap encI) by rw [← h0]; exact HO.out)
     have hwk := HWK.out
     clear h0 HO
     go_wp2
     go_roundw
     case rel => exact ⟨k + 1, by omega, by first | rfl | simp, HO2.out, HY.out⟩
     case measure => simp [intOf] <;> omega
  ·have hk4 : k = 40 := by omega
   subst hk4
   have h0 := HO.out
   rw [lessL_zero, HLL.out] at h0
   have HO2 := hide (owns_mono h0 HX.out.size)
   have HE := hide (HX.out.trans HY.out)
   clear h0 HO HY
   go_wp2
   go_ret
   exact ⟨_, rfl, HO2.out, HE.out⟩
end Go.Proofs.YtopejlachgompaaGreatDoor
