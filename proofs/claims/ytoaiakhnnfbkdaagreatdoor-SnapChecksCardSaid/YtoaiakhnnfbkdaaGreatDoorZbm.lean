/- Lemmas. -/
import Derived.Test.YtoaiakhnnfbkdaaGreatDoorZbn
set_option maxRecDepth 100000
set_option maxHeartbeats 32000000
namespace Go.Proofs.YtoaiakhnnfbkdaaGreatDoor
open Go.ChangeShapes Go.WideShapes Go.ChangeAt Go.RowKit Go.Lib Go.Shelf Go.Maps
theorem bent_arm8 (B : Nat) (w0 W : World) (b3 b6 : Nat) (c d : ConfD) (n : Int) (i j q : Nat) (x : Nat -> Value) (e2 : x 2 = .int .i64 n) (e3 : x 3 = .pointer (some ⟨b3,0,none⟩)) (e6 : x 6 = .pointer (some ⟨b6,0,none⟩)) (e7 : x 7 = .int .i64 8) (e9 : x 9 = d.sv) (e10 : x 10 = d.ev) (e11 : x 11 = d.rv) (e12 : x 12 = .int .i64 i) (e13 : x 13 = .int .i64 j) (e14 : x 14 = .int .i64 q) (hi : i < d.S.length) (hj : j < d.E.length) (hq : q < d.R.length) (hn : I64 n) (h : BnSt B w0 W b3 b6 c d 0 0) (hc : c.E.length = d.E.length /\ c.T.length = d.T.length /\ c.S.length = d.S.length) :
  Code.wp Tryz.prog (bentTail 9) (bodyPost Tryz.prog Tryz.f6 (BentP B c w0)) ⟨frameOf 288 x,[]⟩ W := by
 conv => arg 2; whnf
 rw [frame288];obtain ⟨gs,sc,hs,hsm⟩ := owns_form h.s h.pos.1;obtain ⟨ge,ec,he,hem⟩ := owns_form h.e h.pos.2.1;obtain ⟨gr,rc,hr,hrm⟩ := owns_form h.r h.pos.2.2;simp only [e2,e3,e6,e7,e9,e10,e11,e12,e13,e14,hs,he,hr];clear e2 e3 e6 e7 e9 e10 e11 e12 e13 e14;have hiz0 : (0 : Int) <= i := by omega
 have hiz : (i : Int) < d.S.length := by omega
 have hjz0 : (0 : Int) <= j := by omega
 have hjz : (j : Int) < d.E.length := by omega
 have hqz0 : (0 : Int) <= q := by omega
 have hqz : (q : Int) < d.R.length := by omega
 have HN := hide hn;have HC := hide hc;clear hn hc
 go_upto_block 0 with fail
 go_cut [9,10,15,16,17,18] from 49 to 280 (fun v9 v10 _ _ _ _ w' => ∃ d' m' q',v9 = d'.sv /\ v10 = d'.ev /\ .slice (some ⟨gr,0,none⟩) d.R.length rc = d'.rv /\ q' = m' * m' /\ BnSt B w0 w' b3 b6 c d' m' q')
 case first =>
   have hrow := h.e;rw [he] at hrow;obtain ⟨d1,z1⟩ := cell_row encE_len hrow j hj 0 _ rfl;simp only [Nat.add_zero] at d1 z1;have hnew := h.setE (g := ge) (cap := ec) he j hj 0 (by decide) (.int .i64 n) ({ d.E[j] with id := n } : EndD) rfl (by have := h.fe _ (List.getElem_mem hj); unfold EndFit at this ⊢; exact ⟨HN.out,this.2.1,this.2.2⟩);simp only [Nat.add_zero] at hnew;have HNEW := hide hnew;have HV := hide (show d.sv = _ /\ d.ev = _ /\ d.rv = _ from ⟨hs,he,hr⟩);clear hnew hrow h hs he hr;go_wp2
   go_meet
   case rel =>
    refine ⟨_,0,0, ?_, ?_, ?_,rfl,HNEW.out⟩
    ·exact HV.out.1.symm
    ·exact HV.out.2.1.symm
    ·exact HV.out.2.2.symm
 case rest =>
  obtain ⟨d',m',q',rfl,rfl,h11,rfl,hst⟩ := hcut
  (try simp only [Exit.inBlock,Exit.then])
  apply_assumption
  exact of_frame288 _ rfl (bent_end B w0 _ b3 b6 c d' m' _ rfl rfl rfl rfl h11 hst)
theorem bent_arm9 (B : Nat) (w0 W : World) (b3 b6 : Nat) (c d : ConfD) (n : Int) (i j q : Nat) (x : Nat -> Value) (e2 : x 2 = .int .i64 n) (e3 : x 3 = .pointer (some ⟨b3,0,none⟩)) (e6 : x 6 = .pointer (some ⟨b6,0,none⟩)) (e7 : x 7 = .int .i64 9) (e9 : x 9 = d.sv) (e10 : x 10 = d.ev) (e11 : x 11 = d.rv) (e12 : x 12 = .int .i64 i) (e13 : x 13 = .int .i64 j) (e14 : x 14 = .int .i64 q) (hi : i < d.S.length) (hj : j < d.E.length) (hq : q < d.R.length) (hn : I64 n) (h : BnSt B w0 W b3 b6 c d 0 0) (hc : c.E.length = d.E.length /\ c.T.length = d.T.length /\ c.S.length = d.S.length) :
  Code.wp Tryz.prog (bentTail 9) (bodyPost Tryz.prog Tryz.f6 (BentP B c w0)) ⟨frameOf 288 x,[]⟩ W := by
 conv => arg 2; whnf
 rw [frame288];obtain ⟨gs,sc,hs,hsm⟩ := owns_form h.s h.pos.1;obtain ⟨ge,ec,he,hem⟩ := owns_form h.e h.pos.2.1;obtain ⟨gr,rc,hr,hrm⟩ := owns_form h.r h.pos.2.2;simp only [e2,e3,e6,e7,e9,e10,e11,e12,e13,e14,hs,he,hr];clear e2 e3 e6 e7 e9 e10 e11 e12 e13 e14;have hiz0 : (0 : Int) <= i := by omega
 have hiz : (i : Int) < d.S.length := by omega
 have hjz0 : (0 : Int) <= j := by omega
 have hjz : (j : Int) < d.E.length := by omega
 have hqz0 : (0 : Int) <= q := by omega
 have hqz : (q : Int) < d.R.length := by omega
 have HN := hide hn;have HC := hide hc;clear hn hc
 go_upto_block 0 with fail
 go_cut [9,10,15,16,17,18] from 49 to 280 (fun v9 v10 _ _ _ _ w' => ∃ d' m' q',v9 = d'.sv /\ v10 = d'.ev /\ .slice (some ⟨gr,0,none⟩) d.R.length rc = d'.rv /\ q' = m' * m' /\ BnSt B w0 w' b3 b6 c d' m' q')
 case first =>
   have hrow := h.e;rw [he] at hrow;obtain ⟨d1,z1⟩ := cell_row encE_len hrow j hj 1 _ rfl;have hnew := h.setE (g := ge) (cap := ec) he j hj 1 (by decide) (.int .i64 n) ({ d.E[j] with svc := n } : EndD) rfl (by have := h.fe _ (List.getElem_mem hj); unfold EndFit at this ⊢; exact ⟨this.1,HN.out,this.2.2⟩);have HNEW := hide hnew;have HV := hide (show d.sv = _ /\ d.ev = _ /\ d.rv = _ from ⟨hs,he,hr⟩);clear hnew hrow h hs he hr;go_wp2
   go_meet
   case rel =>
    refine ⟨_,0,0, ?_, ?_, ?_,rfl,HNEW.out⟩
    ·exact HV.out.1.symm
    ·exact HV.out.2.1.symm
    ·exact HV.out.2.2.symm
 case rest =>
  obtain ⟨d',m',q',rfl,rfl,h11,rfl,hst⟩ := hcut
  (try simp only [Exit.inBlock,Exit.then])
  apply_assumption
  exact of_frame288 _ rfl (bent_end B w0 _ b3 b6 c d' m' _ rfl rfl rfl rfl h11 hst)
theorem bent_arm10 (B : Nat) (w0 W : World) (b3 b6 : Nat) (c d : ConfD) (n : Int) (i j q : Nat) (x : Nat -> Value) (e2 : x 2 = .int .i64 n) (e3 : x 3 = .pointer (some ⟨b3,0,none⟩)) (e6 : x 6 = .pointer (some ⟨b6,0,none⟩)) (e7 : x 7 = .int .i64 10) (e9 : x 9 = d.sv) (e10 : x 10 = d.ev) (e11 : x 11 = d.rv) (e12 : x 12 = .int .i64 i) (e13 : x 13 = .int .i64 j) (e14 : x 14 = .int .i64 q) (hi : i < d.S.length) (hj : j < d.E.length) (hq : q < d.R.length) (hn : I64 n) (h : BnSt B w0 W b3 b6 c d 0 0) (hc : c.E.length = d.E.length /\ c.T.length = d.T.length /\ c.S.length = d.S.length) :
  Code.wp Tryz.prog (bentTail 9) (bodyPost Tryz.prog Tryz.f6 (BentP B c w0)) ⟨frameOf 288 x,[]⟩ W := by
 conv => arg 2; whnf
 rw [frame288];obtain ⟨gs,sc,hs,hsm⟩ := owns_form h.s h.pos.1;obtain ⟨ge,ec,he,hem⟩ := owns_form h.e h.pos.2.1;obtain ⟨gr,rc,hr,hrm⟩ := owns_form h.r h.pos.2.2;simp only [e2,e3,e6,e7,e9,e10,e11,e12,e13,e14,hs,he,hr];clear e2 e3 e6 e7 e9 e10 e11 e12 e13 e14;have hiz0 : (0 : Int) <= i := by omega
 have hiz : (i : Int) < d.S.length := by omega
 have hjz0 : (0 : Int) <= j := by omega
 have hjz : (j : Int) < d.E.length := by omega
 have hqz0 : (0 : Int) <= q := by omega
 have hqz : (q : Int) < d.R.length := by omega
 have HN := hide hn;have HC := hide hc;clear hn hc
 go_upto_block 0 with fail
 go_cut [9,10,15,16,17,18] from 49 to 280 (fun v9 v10 _ _ _ _ w' => ∃ d' m' q',v9 = d'.sv /\ v10 = d'.ev /\ .slice (some ⟨gr,0,none⟩) d.R.length rc = d'.rv /\ q' = m' * m' /\ BnSt B w0 w' b3 b6 c d' m' q')
 case first =>
   have hrow := h.e;rw [he] at hrow;obtain ⟨d1,z1⟩ := cell_row encE_len hrow j hj 2 _ rfl;have hnew := h.setE (g := ge) (cap := ec) he j hj 2 (by decide) (.int .i64 n) ({ d.E[j] with zone := n } : EndD) rfl (by have := h.fe _ (List.getElem_mem hj); unfold EndFit at this ⊢; exact ⟨this.1,this.2.1,HN.out⟩);have HNEW := hide hnew;have HV := hide (show d.sv = _ /\ d.ev = _ /\ d.rv = _ from ⟨hs,he,hr⟩);clear hnew hrow h hs he hr;go_wp2
   go_meet
   case rel =>
    refine ⟨_,0,0, ?_, ?_, ?_,rfl,HNEW.out⟩
    ·exact HV.out.1.symm
    ·exact HV.out.2.1.symm
    ·exact HV.out.2.2.symm
 case rest =>
  obtain ⟨d',m',q',rfl,rfl,h11,rfl,hst⟩ := hcut
  (try simp only [Exit.inBlock,Exit.then])
  apply_assumption
  exact of_frame288 _ rfl (bent_end B w0 _ b3 b6 c d' m' _ rfl rfl rfl rfl h11 hst)
theorem bent_arm12 (B : Nat) (w0 W : World) (b3 b6 : Nat) (c d : ConfD) (n : Int) (i j q : Nat) (x : Nat -> Value) (e2 : x 2 = .int .i64 n) (e3 : x 3 = .pointer (some ⟨b3,0,none⟩)) (e6 : x 6 = .pointer (some ⟨b6,0,none⟩)) (e7 : x 7 = .int .i64 12) (e9 : x 9 = d.sv) (e10 : x 10 = d.ev) (e11 : x 11 = d.rv) (e12 : x 12 = .int .i64 i) (e13 : x 13 = .int .i64 j) (e14 : x 14 = .int .i64 q) (hi : i < d.S.length) (hj : j < d.E.length) (hq : q < d.R.length) (hn : I64 n) (h : BnSt B w0 W b3 b6 c d 0 0) (hc : c.E.length = d.E.length /\ c.T.length = d.T.length /\ c.S.length = d.S.length) :
  Code.wp Tryz.prog (bentTail 9) (bodyPost Tryz.prog Tryz.f6 (BentP B c w0)) ⟨frameOf 288 x,[]⟩ W := by
 conv => arg 2; whnf
 rw [frame288];obtain ⟨gs,sc,hs,hsm⟩ := owns_form h.s h.pos.1;obtain ⟨ge,ec,he,hem⟩ := owns_form h.e h.pos.2.1;obtain ⟨gr,rc,hr,hrm⟩ := owns_form h.r h.pos.2.2;simp only [e2,e3,e6,e7,e9,e10,e11,e12,e13,e14,hs,he,hr];clear e2 e3 e6 e7 e9 e10 e11 e12 e13 e14;have hiz0 : (0 : Int) <= i := by omega
 have hiz : (i : Int) < d.S.length := by omega
 have hjz0 : (0 : Int) <= j := by omega
 have hjz : (j : Int) < d.E.length := by omega
 have hqz0 : (0 : Int) <= q := by omega
 have hqz : (q : Int) < d.R.length := by omega
 have HN := hide hn;have HC := hide hc;clear hn hc
 go_upto_block 0 with fail
 go_cut [9,10,15,16,17,18] from 49 to 280 (fun v9 v10 _ _ _ _ w' => ∃ d' m' q',v9 = d'.sv /\ v10 = d'.ev /\ .slice (some ⟨gr,0,none⟩) d.R.length rc = d'.rv /\ q' = m' * m' /\ BnSt B w0 w' b3 b6 c d' m' q')
 case first =>
   have hrow := h.r;rw [hr] at hrow;obtain ⟨d1,z1⟩ := cell_row encR_len hrow q hq 4 _ rfl;have hnew := h.setR (g := gr) (cap := rc) hr q hq 4 (by decide) (.int .i64 n) ({ d.R[q] with mi := n } : RuleD) rfl (show RuleOwn B W d.R[q] from h.rr _ (List.getElem_mem hq)) (by have := h.fr _ (List.getElem_mem hq); exact ⟨this.1,HN.out⟩);have HNEW := hide hnew;have HV := hide (show d.sv = _ /\ d.ev = _ /\ d.rv = _ from ⟨hs,he,hr⟩);clear hnew hrow h hs he hr;go_wp2
   go_meet
   case rel =>
    refine ⟨_,0,0, ?_, ?_, ?_,rfl,HNEW.out⟩
    ·exact HV.out.1.symm
    ·exact HV.out.2.1.symm
    ·exact HV.out.2.2.symm
 case rest =>
  obtain ⟨d',m',q',rfl,rfl,h11,rfl,hst⟩ := hcut
  (try simp only [Exit.inBlock,Exit.then])
  apply_assumption
  exact of_frame288 _ rfl (bent_end B w0 _ b3 b6 c d' m' _ rfl rfl rfl rfl h11 hst)
theorem bent_arm13 (B : Nat) (w0 W : World) (b3 b6 : Nat) (c d : ConfD) (n : Int) (i j q : Nat) (x : Nat -> Value) (e2 : x 2 = .int .i64 n) (e3 : x 3 = .pointer (some ⟨b3,0,none⟩)) (e6 : x 6 = .pointer (some ⟨b6,0,none⟩)) (e7 : x 7 = .int .i64 13) (e9 : x 9 = d.sv) (e10 : x 10 = d.ev) (e11 : x 11 = d.rv) (e12 : x 12 = .int .i64 i) (e13 : x 13 = .int .i64 j) (e14 : x 14 = .int .i64 q) (hi : i < d.S.length) (hj : j < d.E.length) (hq : q < d.R.length) (hn : I64 n) (h : BnSt B w0 W b3 b6 c d 0 0) (hc : c.E.length = d.E.length /\ c.T.length = d.T.length /\ c.S.length = d.S.length) :
  Code.wp Tryz.prog (bentTail 9) (bodyPost Tryz.prog Tryz.f6 (BentP B c w0)) ⟨frameOf 288 x,[]⟩ W := by
 conv => arg 2; whnf
 rw [frame288];obtain ⟨gs,sc,hs,hsm⟩ := owns_form h.s h.pos.1;obtain ⟨ge,ec,he,hem⟩ := owns_form h.e h.pos.2.1;obtain ⟨gr,rc,hr,hrm⟩ := owns_form h.r h.pos.2.2;simp only [e2,e3,e6,e7,e9,e10,e11,e12,e13,e14,hs,he,hr];clear e2 e3 e6 e7 e9 e10 e11 e12 e13 e14;have hiz0 : (0 : Int) <= i := by omega
 have hiz : (i : Int) < d.S.length := by omega
 have hjz0 : (0 : Int) <= j := by omega
 have hjz : (j : Int) < d.E.length := by omega
 have hqz0 : (0 : Int) <= q := by omega
 have hqz : (q : Int) < d.R.length := by omega
 have HN := hide hn;have HC := hide hc;clear hn hc
 go_upto_block 0 with fail
 go_cut [9,10,15,16,17,18] from 49 to 280 (fun v9 v10 _ _ _ _ w' => ∃ d' m' q',v9 = d'.sv /\ v10 = d'.ev /\ .slice (some ⟨gr,0,none⟩) d.R.length rc = d'.rv /\ q' = m' * m' /\ BnSt B w0 w' b3 b6 c d' m' q')
 case first =>
   have hrow := h.r;rw [hr] at hrow;obtain ⟨d1,z1⟩ := cell_row encR_len hrow q hq 18 _ rfl;have hnew := h.setR (g := gr) (cap := rc) hr q hq 18 (by decide) (.int .i64 n) ({ d.R[q] with rate := n } : RuleD) rfl (show RuleOwn B W d.R[q] from h.rr _ (List.getElem_mem hq)) (by have := h.fr _ (List.getElem_mem hq); exact this);have HNEW := hide hnew;have HV := hide (show d.sv = _ /\ d.ev = _ /\ d.rv = _ from ⟨hs,he,hr⟩);clear hnew hrow h hs he hr;go_wp2
   go_meet
   case rel =>
    refine ⟨_,0,0, ?_, ?_, ?_,rfl,HNEW.out⟩
    ·exact HV.out.1.symm
    ·exact HV.out.2.1.symm
    ·exact HV.out.2.2.symm
 case rest =>
  obtain ⟨d',m',q',rfl,rfl,h11,rfl,hst⟩ := hcut
  (try simp only [Exit.inBlock,Exit.then])
  apply_assumption
  exact of_frame288 _ rfl (bent_end B w0 _ b3 b6 c d' m' _ rfl rfl rfl rfl h11 hst)
theorem bent_arm14 (B : Nat) (w0 W : World) (b3 b6 : Nat) (c d : ConfD) (n : Int) (i j q : Nat) (x : Nat -> Value) (e2 : x 2 = .int .i64 n) (e3 : x 3 = .pointer (some ⟨b3,0,none⟩)) (e6 : x 6 = .pointer (some ⟨b6,0,none⟩)) (e7 : x 7 = .int .i64 14) (e9 : x 9 = d.sv) (e10 : x 10 = d.ev) (e11 : x 11 = d.rv) (e12 : x 12 = .int .i64 i) (e13 : x 13 = .int .i64 j) (e14 : x 14 = .int .i64 q) (hi : i < d.S.length) (hj : j < d.E.length) (hq : q < d.R.length) (hn : I64 n) (h : BnSt B w0 W b3 b6 c d 0 0) (hc : c.E.length = d.E.length /\ c.T.length = d.T.length /\ c.S.length = d.S.length) :
  Code.wp Tryz.prog (bentTail 9) (bodyPost Tryz.prog Tryz.f6 (BentP B c w0)) ⟨frameOf 288 x,[]⟩ W := by
 conv => arg 2; whnf
 rw [frame288];obtain ⟨gs,sc,hs,hsm⟩ := owns_form h.s h.pos.1;obtain ⟨ge,ec,he,hem⟩ := owns_form h.e h.pos.2.1;obtain ⟨gr,rc,hr,hrm⟩ := owns_form h.r h.pos.2.2;simp only [e2,e3,e6,e7,e9,e10,e11,e12,e13,e14,hs,he,hr];clear e2 e3 e6 e7 e9 e10 e11 e12 e13 e14;have hiz0 : (0 : Int) <= i := by omega
 have hiz : (i : Int) < d.S.length := by omega
 have hjz0 : (0 : Int) <= j := by omega
 have hjz : (j : Int) < d.E.length := by omega
 have hqz0 : (0 : Int) <= q := by omega
 have hqz : (q : Int) < d.R.length := by omega
 have HN := hide hn;have HC := hide hc;clear hn hc
 go_upto_block 0 with fail
 go_cut [9,10,15,16,17,18] from 49 to 280 (fun v9 v10 _ _ _ _ w' => ∃ d' m' q',v9 = d'.sv /\ v10 = d'.ev /\ .slice (some ⟨gr,0,none⟩) d.R.length rc = d'.rv /\ q' = m' * m' /\ BnSt B w0 w' b3 b6 c d' m' q')
 case first =>
   have hrow := h.r;rw [hr] at hrow;obtain ⟨d1,z1⟩ := cell_row encR_len hrow q hq 12 _ rfl;have hnew := h.setR (g := gr) (cap := rc) hr q hq 12 (by decide) (.int .i64 n) ({ d.R[q] with q1 := n } : RuleD) rfl (show RuleOwn B W d.R[q] from h.rr _ (List.getElem_mem hq)) (by have := h.fr _ (List.getElem_mem hq); exact this);have HNEW := hide hnew;have HV := hide (show d.sv = _ /\ d.ev = _ /\ d.rv = _ from ⟨hs,he,hr⟩);clear hnew hrow h hs he hr;go_wp2
   go_meet
   case rel =>
    refine ⟨_,0,0, ?_, ?_, ?_,rfl,HNEW.out⟩
    ·exact HV.out.1.symm
    ·exact HV.out.2.1.symm
    ·exact HV.out.2.2.symm
 case rest =>
  obtain ⟨d',m',q',rfl,rfl,h11,rfl,hst⟩ := hcut
  (try simp only [Exit.inBlock,Exit.then])
  apply_assumption
  exact of_frame288 _ rfl (bent_end B w0 _ b3 b6 c d' m' _ rfl rfl rfl rfl h11 hst)
theorem bent_arm18 (B : Nat) (w0 W : World) (b3 b6 : Nat) (c d : ConfD) (n : Int) (i j q : Nat) (x : Nat -> Value) (e2 : x 2 = .int .i64 n) (e3 : x 3 = .pointer (some ⟨b3,0,none⟩)) (e6 : x 6 = .pointer (some ⟨b6,0,none⟩)) (e7 : x 7 = .int .i64 18) (e9 : x 9 = d.sv) (e10 : x 10 = d.ev) (e11 : x 11 = d.rv) (e12 : x 12 = .int .i64 i) (e13 : x 13 = .int .i64 j) (e14 : x 14 = .int .i64 q) (hi : i < d.S.length) (hj : j < d.E.length) (hq : q < d.R.length) (hn : I64 n) (h : BnSt B w0 W b3 b6 c d 0 0) (hc : c.E.length = d.E.length /\ c.T.length = d.T.length /\ c.S.length = d.S.length) :
  Code.wp Tryz.prog (bentTail 9) (bodyPost Tryz.prog Tryz.f6 (BentP B c w0)) ⟨frameOf 288 x,[]⟩ W := by
 conv => arg 2; whnf
 rw [frame288];obtain ⟨gs,sc,hs,hsm⟩ := owns_form h.s h.pos.1;obtain ⟨ge,ec,he,hem⟩ := owns_form h.e h.pos.2.1;obtain ⟨gr,rc,hr,hrm⟩ := owns_form h.r h.pos.2.2;simp only [e2,e3,e6,e7,e9,e10,e11,e12,e13,e14,hs,he,hr];clear e2 e3 e6 e7 e9 e10 e11 e12 e13 e14;have hiz0 : (0 : Int) <= i := by omega
 have hiz : (i : Int) < d.S.length := by omega
 have hjz0 : (0 : Int) <= j := by omega
 have hjz : (j : Int) < d.E.length := by omega
 have hqz0 : (0 : Int) <= q := by omega
 have hqz : (q : Int) < d.R.length := by omega
 have HN := hide hn;have HC := hide hc;clear hn hc
 go_upto_block 0 with fail
 go_cut [9,10,15,16,17,18] from 49 to 280 (fun v9 v10 _ _ _ _ w' => ∃ d' m' q',v9 = d'.sv /\ v10 = d'.ev /\ .slice (some ⟨gr,0,none⟩) d.R.length rc = d'.rv /\ q' = m' * m' /\ BnSt B w0 w' b3 b6 c d' m' q')
 case first =>
   obtain ⟨v1,v2,v3,hb⟩ := h.box;have d1 := hb.cell 8 _ rfl;have z1 := hb.frozen 8;have hnew := h.setN 8 (.int .i64 n) ({ d with w4 := n } : ConfD) ⟨rfl,rfl,rfl,rfl,rfl,rfl⟩ (fun _ _ _ => rfl) h.t h.ft 0 0 (h.cnt.same rfl rfl rfl rfl);have HNEW := hide hnew;have HV := hide (show d.sv = _ /\ d.ev = _ /\ d.rv = _ from ⟨hs,he,hr⟩);clear hnew hb h hs he hr;go_wp2
   go_meet
   case rel =>
    refine ⟨_,0,0, ?_, ?_, ?_,rfl,HNEW.out⟩
    ·exact HV.out.1.symm
    ·exact HV.out.2.1.symm
    ·exact HV.out.2.2.symm
 case rest =>
  obtain ⟨d',m',q',rfl,rfl,h11,rfl,hst⟩ := hcut
  (try simp only [Exit.inBlock,Exit.then])
  apply_assumption
  exact of_frame288 _ rfl (bent_end B w0 _ b3 b6 c d' m' _ rfl rfl rfl rfl h11 hst)
theorem bent_arm19 (B : Nat) (w0 W : World) (b3 b6 : Nat) (c d : ConfD) (n : Int) (i j q : Nat) (x : Nat -> Value) (e2 : x 2 = .int .i64 n) (e3 : x 3 = .pointer (some ⟨b3,0,none⟩)) (e6 : x 6 = .pointer (some ⟨b6,0,none⟩)) (e7 : x 7 = .int .i64 19) (e9 : x 9 = d.sv) (e10 : x 10 = d.ev) (e11 : x 11 = d.rv) (e12 : x 12 = .int .i64 i) (e13 : x 13 = .int .i64 j) (e14 : x 14 = .int .i64 q) (hi : i < d.S.length) (hj : j < d.E.length) (hq : q < d.R.length) (hn : I64 n) (h : BnSt B w0 W b3 b6 c d 0 0) (hc : c.E.length = d.E.length /\ c.T.length = d.T.length /\ c.S.length = d.S.length) :
  Code.wp Tryz.prog (bentTail 9) (bodyPost Tryz.prog Tryz.f6 (BentP B c w0)) ⟨frameOf 288 x,[]⟩ W := by
 conv => arg 2; whnf
 rw [frame288];obtain ⟨gs,sc,hs,hsm⟩ := owns_form h.s h.pos.1;obtain ⟨ge,ec,he,hem⟩ := owns_form h.e h.pos.2.1;obtain ⟨gr,rc,hr,hrm⟩ := owns_form h.r h.pos.2.2;simp only [e2,e3,e6,e7,e9,e10,e11,e12,e13,e14,hs,he,hr];clear e2 e3 e6 e7 e9 e10 e11 e12 e13 e14;have hiz0 : (0 : Int) <= i := by omega
 have hiz : (i : Int) < d.S.length := by omega
 have hjz0 : (0 : Int) <= j := by omega
 have hjz : (j : Int) < d.E.length := by omega
 have hqz0 : (0 : Int) <= q := by omega
 have hqz : (q : Int) < d.R.length := by omega
 have HN := hide hn;have HC := hide hc;clear hn hc
 go_upto_block 0 with fail
 go_cut [9,10,15,16,17,18] from 49 to 280 (fun v9 v10 _ _ _ _ w' => ∃ d' m' q',v9 = d'.sv /\ v10 = d'.ev /\ .slice (some ⟨gr,0,none⟩) d.R.length rc = d'.rv /\ q' = m' * m' /\ BnSt B w0 w' b3 b6 c d' m' q')
 case first =>
   obtain ⟨v1,v2,v3,hb⟩ := h.box;have d1 := hb.cell 11 _ rfl;have z1 := hb.frozen 11;have hnew := h.setN 11 (.int .i64 n) ({ d with panic := n } : ConfD) ⟨rfl,rfl,rfl,rfl,rfl,rfl⟩ (fun _ _ _ => rfl) h.t h.ft 0 0 (h.cnt.same rfl rfl rfl rfl);have HNEW := hide hnew;have HV := hide (show d.sv = _ /\ d.ev = _ /\ d.rv = _ from ⟨hs,he,hr⟩);clear hnew hb h hs he hr;go_wp2
   go_meet
   case rel =>
    refine ⟨_,0,0, ?_, ?_, ?_,rfl,HNEW.out⟩
    ·exact HV.out.1.symm
    ·exact HV.out.2.1.symm
    ·exact HV.out.2.2.symm
 case rest =>
  obtain ⟨d',m',q',rfl,rfl,h11,rfl,hst⟩ := hcut
  (try simp only [Exit.inBlock,Exit.then])
  apply_assumption
  exact of_frame288 _ rfl (bent_end B w0 _ b3 b6 c d' m' _ rfl rfl rfl rfl h11 hst)
theorem bent_arm20 (B : Nat) (w0 W : World) (b3 b6 : Nat) (c d : ConfD) (n : Int) (i j q : Nat) (x : Nat -> Value) (e2 : x 2 = .int .i64 n) (e3 : x 3 = .pointer (some ⟨b3,0,none⟩)) (e6 : x 6 = .pointer (some ⟨b6,0,none⟩)) (e7 : x 7 = .int .i64 20) (e9 : x 9 = d.sv) (e10 : x 10 = d.ev) (e11 : x 11 = d.rv) (e12 : x 12 = .int .i64 i) (e13 : x 13 = .int .i64 j) (e14 : x 14 = .int .i64 q) (hi : i < d.S.length) (hj : j < d.E.length) (hq : q < d.R.length) (hn : I64 n) (h : BnSt B w0 W b3 b6 c d 0 0) (hc : c.E.length = d.E.length /\ c.T.length = d.T.length /\ c.S.length = d.S.length) :
  Code.wp Tryz.prog (bentTail 9) (bodyPost Tryz.prog Tryz.f6 (BentP B c w0)) ⟨frameOf 288 x,[]⟩ W := by
 conv => arg 2; whnf
 rw [frame288];obtain ⟨gs,sc,hs,hsm⟩ := owns_form h.s h.pos.1;obtain ⟨ge,ec,he,hem⟩ := owns_form h.e h.pos.2.1;obtain ⟨gr,rc,hr,hrm⟩ := owns_form h.r h.pos.2.2;simp only [e2,e3,e6,e7,e9,e10,e11,e12,e13,e14,hs,he,hr];clear e2 e3 e6 e7 e9 e10 e11 e12 e13 e14;have hiz0 : (0 : Int) <= i := by omega
 have hiz : (i : Int) < d.S.length := by omega
 have hjz0 : (0 : Int) <= j := by omega
 have hjz : (j : Int) < d.E.length := by omega
 have hqz0 : (0 : Int) <= q := by omega
 have hqz : (q : Int) < d.R.length := by omega
 have HN := hide hn;have HC := hide hc;clear hn hc
 go_upto_block 0 with fail
 go_cut [9,10,15,16,17,18] from 49 to 280 (fun v9 v10 _ _ _ _ w' => ∃ d' m' q',v9 = d'.sv /\ v10 = d'.ev /\ .slice (some ⟨gr,0,none⟩) d.R.length rc = d'.rv /\ q' = m' * m' /\ BnSt B w0 w' b3 b6 c d' m' q')
 case first =>
   obtain ⟨v1,v2,v3,hb⟩ := h.box;have d1 := hb.cell 12 _ rfl;have z1 := hb.frozen 12;have hnew := h.setN 12 (.int .i64 n) ({ d with low := n } : ConfD) ⟨rfl,rfl,rfl,rfl,rfl,rfl⟩ (fun _ _ _ => rfl) h.t h.ft 0 0 (h.cnt.same rfl rfl rfl rfl);have HNEW := hide hnew;have HV := hide (show d.sv = _ /\ d.ev = _ /\ d.rv = _ from ⟨hs,he,hr⟩);clear hnew hb h hs he hr;go_wp2
   go_meet
   case rel =>
    refine ⟨_,0,0, ?_, ?_, ?_,rfl,HNEW.out⟩
    ·exact HV.out.1.symm
    ·exact HV.out.2.1.symm
    ·exact HV.out.2.2.symm
 case rest =>
  obtain ⟨d',m',q',rfl,rfl,h11,rfl,hst⟩ := hcut
  (try simp only [Exit.inBlock,Exit.then])
  apply_assumption
  exact of_frame288 _ rfl (bent_end B w0 _ b3 b6 c d' m' _ rfl rfl rfl rfl h11 hst)
theorem bent_arm21 (B : Nat) (w0 W : World) (b3 b6 : Nat) (c d : ConfD) (n : Int) (i j q : Nat) (x : Nat -> Value) (e2 : x 2 = .int .i64 n) (e3 : x 3 = .pointer (some ⟨b3,0,none⟩)) (e6 : x 6 = .pointer (some ⟨b6,0,none⟩)) (e7 : x 7 = .int .i64 21) (e9 : x 9 = d.sv) (e10 : x 10 = d.ev) (e11 : x 11 = d.rv) (e12 : x 12 = .int .i64 i) (e13 : x 13 = .int .i64 j) (e14 : x 14 = .int .i64 q) (hi : i < d.S.length) (hj : j < d.E.length) (hq : q < d.R.length) (hn : I64 n) (h : BnSt B w0 W b3 b6 c d 0 0) (hc : c.E.length = d.E.length /\ c.T.length = d.T.length /\ c.S.length = d.S.length) :
  Code.wp Tryz.prog (bentTail 9) (bodyPost Tryz.prog Tryz.f6 (BentP B c w0)) ⟨frameOf 288 x,[]⟩ W := by
 conv => arg 2; whnf
 rw [frame288];obtain ⟨gs,sc,hs,hsm⟩ := owns_form h.s h.pos.1;obtain ⟨ge,ec,he,hem⟩ := owns_form h.e h.pos.2.1;obtain ⟨gr,rc,hr,hrm⟩ := owns_form h.r h.pos.2.2;simp only [e2,e3,e6,e7,e9,e10,e11,e12,e13,e14,hs,he,hr];clear e2 e3 e6 e7 e9 e10 e11 e12 e13 e14;have hiz0 : (0 : Int) <= i := by omega
 have hiz : (i : Int) < d.S.length := by omega
 have hjz0 : (0 : Int) <= j := by omega
 have hjz : (j : Int) < d.E.length := by omega
 have hqz0 : (0 : Int) <= q := by omega
 have hqz : (q : Int) < d.R.length := by omega
 have HN := hide hn;have HC := hide hc;clear hn hc
 go_upto_block 0 with fail
 go_cut [9,10,15,16,17,18] from 49 to 280 (fun v9 v10 _ _ _ _ w' => ∃ d' m' q',v9 = d'.sv /\ v10 = d'.ev /\ .slice (some ⟨gr,0,none⟩) d.R.length rc = d'.rv /\ q' = m' * m' /\ BnSt B w0 w' b3 b6 c d' m' q')
 case first =>
   obtain ⟨v1,v2,v3,hb⟩ := h.box;have d1 := hb.cell 13 _ rfl;have z1 := hb.frozen 13;have hnew := h.setN 13 (.int .i64 n) ({ d with high := n } : ConfD) ⟨rfl,rfl,rfl,rfl,rfl,rfl⟩ (fun _ _ _ => rfl) h.t h.ft 0 0 (h.cnt.same rfl rfl rfl rfl);have HNEW := hide hnew;have HV := hide (show d.sv = _ /\ d.ev = _ /\ d.rv = _ from ⟨hs,he,hr⟩);clear hnew hb h hs he hr;go_wp2
   go_meet
   case rel =>
    refine ⟨_,0,0, ?_, ?_, ?_,rfl,HNEW.out⟩
    ·exact HV.out.1.symm
    ·exact HV.out.2.1.symm
    ·exact HV.out.2.2.symm
 case rest =>
  obtain ⟨d',m',q',rfl,rfl,h11,rfl,hst⟩ := hcut
  (try simp only [Exit.inBlock,Exit.then])
  apply_assumption
  exact of_frame288 _ rfl (bent_end B w0 _ b3 b6 c d' m' _ rfl rfl rfl rfl h11 hst)
theorem bent_arm22 (B : Nat) (w0 W : World) (b3 b6 : Nat) (c d : ConfD) (n : Int) (i j q : Nat) (x : Nat -> Value) (e2 : x 2 = .int .i64 n) (e3 : x 3 = .pointer (some ⟨b3,0,none⟩)) (e6 : x 6 = .pointer (some ⟨b6,0,none⟩)) (e7 : x 7 = .int .i64 22) (e9 : x 9 = d.sv) (e10 : x 10 = d.ev) (e11 : x 11 = d.rv) (e12 : x 12 = .int .i64 i) (e13 : x 13 = .int .i64 j) (e14 : x 14 = .int .i64 q) (hi : i < d.S.length) (hj : j < d.E.length) (hq : q < d.R.length) (hn : I64 n) (h : BnSt B w0 W b3 b6 c d 0 0) (hc : c.E.length = d.E.length /\ c.T.length = d.T.length /\ c.S.length = d.S.length) :
  Code.wp Tryz.prog (bentTail 9) (bodyPost Tryz.prog Tryz.f6 (BentP B c w0)) ⟨frameOf 288 x,[]⟩ W := by
 conv => arg 2; whnf
 rw [frame288];obtain ⟨gs,sc,hs,hsm⟩ := owns_form h.s h.pos.1;obtain ⟨ge,ec,he,hem⟩ := owns_form h.e h.pos.2.1;obtain ⟨gr,rc,hr,hrm⟩ := owns_form h.r h.pos.2.2;simp only [e2,e3,e6,e7,e9,e10,e11,e12,e13,e14,hs,he,hr];clear e2 e3 e6 e7 e9 e10 e11 e12 e13 e14;have hiz0 : (0 : Int) <= i := by omega
 have hiz : (i : Int) < d.S.length := by omega
 have hjz0 : (0 : Int) <= j := by omega
 have hjz : (j : Int) < d.E.length := by omega
 have hqz0 : (0 : Int) <= q := by omega
 have hqz : (q : Int) < d.R.length := by omega
 have HN := hide hn;have HC := hide hc;clear hn hc
 go_upto_block 0 with fail
 go_cut [9,10,15,16,17,18] from 49 to 280 (fun v9 v10 _ _ _ _ w' => ∃ d' m' q',v9 = d'.sv /\ v10 = d'.ev /\ .slice (some ⟨gr,0,none⟩) d.R.length rc = d'.rv /\ q' = m' * m' /\ BnSt B w0 w' b3 b6 c d' m' q')
 case first =>
   obtain ⟨v1,v2,v3,hb⟩ := h.box;have d1 := hb.cell 14 _ rfl;have z1 := hb.frozen 14;have hnew := h.setN 14 (.int .i64 n) ({ d with wait := n } : ConfD) ⟨rfl,rfl,rfl,rfl,rfl,rfl⟩ (fun _ _ _ => rfl) h.t h.ft 0 0 (h.cnt.same rfl rfl rfl rfl);have HNEW := hide hnew;have HV := hide (show d.sv = _ /\ d.ev = _ /\ d.rv = _ from ⟨hs,he,hr⟩);clear hnew hb h hs he hr;go_wp2
   go_meet
   case rel =>
    refine ⟨_,0,0, ?_, ?_, ?_,rfl,HNEW.out⟩
    ·exact HV.out.1.symm
    ·exact HV.out.2.1.symm
    ·exact HV.out.2.2.symm
 case rest =>
  obtain ⟨d',m',q',rfl,rfl,h11,rfl,hst⟩ := hcut
  (try simp only [Exit.inBlock,Exit.then])
  apply_assumption
  exact of_frame288 _ rfl (bent_end B w0 _ b3 b6 c d' m' _ rfl rfl rfl rfl h11 hst)
theorem bent_arm23 (B : Nat) (w0 W : World) (b3 b6 : Nat) (c d : ConfD) (n : Int) (i j q : Nat) (x : Nat -> Value) (e2 : x 2 = .int .i64 n) (e3 : x 3 = .pointer (some ⟨b3,0,none⟩)) (e6 : x 6 = .pointer (some ⟨b6,0,none⟩)) (e7 : x 7 = .int .i64 23) (e9 : x 9 = d.sv) (e10 : x 10 = d.ev) (e11 : x 11 = d.rv) (e12 : x 12 = .int .i64 i) (e13 : x 13 = .int .i64 j) (e14 : x 14 = .int .i64 q) (hi : i < d.S.length) (hj : j < d.E.length) (hq : q < d.R.length) (hn : I64 n) (h : BnSt B w0 W b3 b6 c d 0 0) (hc : c.E.length = d.E.length /\ c.T.length = d.T.length /\ c.S.length = d.S.length) :
  Code.wp Tryz.prog (bentTail 9) (bodyPost Tryz.prog Tryz.f6 (BentP B c w0)) ⟨frameOf 288 x,[]⟩ W := by
 conv => arg 2; whnf
 rw [frame288];obtain ⟨gs,sc,hs,hsm⟩ := owns_form h.s h.pos.1;obtain ⟨ge,ec,he,hem⟩ := owns_form h.e h.pos.2.1;obtain ⟨gr,rc,hr,hrm⟩ := owns_form h.r h.pos.2.2;simp only [e2,e3,e6,e7,e9,e10,e11,e12,e13,e14,hs,he,hr];clear e2 e3 e6 e7 e9 e10 e11 e12 e13 e14;have hiz0 : (0 : Int) <= i := by omega
 have hiz : (i : Int) < d.S.length := by omega
 have hjz0 : (0 : Int) <= j := by omega
 have hjz : (j : Int) < d.E.length := by omega
 have hqz0 : (0 : Int) <= q := by omega
 have hqz : (q : Int) < d.R.length := by omega
 have HN := hide hn;have HC := hide hc;clear hn hc
 go_upto_block 0 with fail
 go_cut [9,10,15,16,17,18] from 49 to 280 (fun v9 v10 _ _ _ _ w' => ∃ d' m' q',v9 = d'.sv /\ v10 = d'.ev /\ .slice (some ⟨gr,0,none⟩) d.R.length rc = d'.rv /\ q' = m' * m' /\ BnSt B w0 w' b3 b6 c d' m' q')
 case first =>
   obtain ⟨v1,v2,v3,hb⟩ := h.box;have d1 := hb.cell 15 _ rfl;have z1 := hb.frozen 15;have hnew := h.setN 15 (.int .i64 n) ({ d with hop := n } : ConfD) ⟨rfl,rfl,rfl,rfl,rfl,rfl⟩ (fun _ _ _ => rfl) h.t h.ft 0 0 (h.cnt.same rfl rfl rfl rfl);have HNEW := hide hnew;have HV := hide (show d.sv = _ /\ d.ev = _ /\ d.rv = _ from ⟨hs,he,hr⟩);clear hnew hb h hs he hr;go_wp2
   go_meet
   case rel =>
    refine ⟨_,0,0, ?_, ?_, ?_,rfl,HNEW.out⟩
    ·exact HV.out.1.symm
    ·exact HV.out.2.1.symm
    ·exact HV.out.2.2.symm
 case rest =>
  obtain ⟨d',m',q',rfl,rfl,h11,rfl,hst⟩ := hcut
  (try simp only [Exit.inBlock,Exit.then])
  apply_assumption
  exact of_frame288 _ rfl (bent_end B w0 _ b3 b6 c d' m' _ rfl rfl rfl rfl h11 hst)
theorem bent_arm24 (B : Nat) (w0 W : World) (b3 b6 : Nat) (c d : ConfD) (n : Int) (i j q : Nat) (x : Nat -> Value) (e2 : x 2 = .int .i64 n) (e3 : x 3 = .pointer (some ⟨b3,0,none⟩)) (e6 : x 6 = .pointer (some ⟨b6,0,none⟩)) (e7 : x 7 = .int .i64 24) (e9 : x 9 = d.sv) (e10 : x 10 = d.ev) (e11 : x 11 = d.rv) (e12 : x 12 = .int .i64 i) (e13 : x 13 = .int .i64 j) (e14 : x 14 = .int .i64 q) (hi : i < d.S.length) (hj : j < d.E.length) (hq : q < d.R.length) (hn : I64 n) (h : BnSt B w0 W b3 b6 c d 0 0) (hc : c.E.length = d.E.length /\ c.T.length = d.T.length /\ c.S.length = d.S.length) :
  Code.wp Tryz.prog (bentTail 9) (bodyPost Tryz.prog Tryz.f6 (BentP B c w0)) ⟨frameOf 288 x,[]⟩ W := by
 conv => arg 2; whnf
 rw [frame288];obtain ⟨gs,sc,hs,hsm⟩ := owns_form h.s h.pos.1;obtain ⟨ge,ec,he,hem⟩ := owns_form h.e h.pos.2.1;obtain ⟨gr,rc,hr,hrm⟩ := owns_form h.r h.pos.2.2;simp only [e2,e3,e6,e7,e9,e10,e11,e12,e13,e14,hs,he,hr];clear e2 e3 e6 e7 e9 e10 e11 e12 e13 e14;have hiz0 : (0 : Int) <= i := by omega
 have hiz : (i : Int) < d.S.length := by omega
 have hjz0 : (0 : Int) <= j := by omega
 have hjz : (j : Int) < d.E.length := by omega
 have hqz0 : (0 : Int) <= q := by omega
 have hqz : (q : Int) < d.R.length := by omega
 have HN := hide hn;have HC := hide hc;clear hn hc
 go_upto_block 0 with fail
 go_cut [9,10,15,16,17,18] from 49 to 280 (fun v9 v10 _ _ _ _ w' => ∃ d' m' q',v9 = d'.sv /\ v10 = d'.ev /\ .slice (some ⟨gr,0,none⟩) d.R.length rc = d'.rv /\ q' = m' * m' /\ BnSt B w0 w' b3 b6 c d' m' q')
 case first =>
   obtain ⟨v1,v2,v3,hb⟩ := h.box;have d1 := hb.cell 16 _ rfl;have z1 := hb.frozen 16;have hnew := h.setN 16 (.int .i64 n) ({ d with life := n } : ConfD) ⟨rfl,rfl,rfl,rfl,rfl,rfl⟩ (fun _ _ _ => rfl) h.t h.ft 0 0 (h.cnt.same rfl rfl rfl rfl);have HNEW := hide hnew;have HV := hide (show d.sv = _ /\ d.ev = _ /\ d.rv = _ from ⟨hs,he,hr⟩);clear hnew hb h hs he hr;go_wp2
   go_meet
   case rel =>
    refine ⟨_,0,0, ?_, ?_, ?_,rfl,HNEW.out⟩
    ·exact HV.out.1.symm
    ·exact HV.out.2.1.symm
    ·exact HV.out.2.2.symm
 case rest =>
  obtain ⟨d',m',q',rfl,rfl,h11,rfl,hst⟩ := hcut
  (try simp only [Exit.inBlock,Exit.then])
  apply_assumption
  exact of_frame288 _ rfl (bent_end B w0 _ b3 b6 c d' m' _ rfl rfl rfl rfl h11 hst)
theorem bent_arm25 (B : Nat) (w0 W : World) (b3 b6 : Nat) (c d : ConfD) (n : Int) (i j q : Nat) (x : Nat -> Value) (e2 : x 2 = .int .i64 n) (e3 : x 3 = .pointer (some ⟨b3,0,none⟩)) (e6 : x 6 = .pointer (some ⟨b6,0,none⟩)) (e7 : x 7 = .int .i64 25) (e9 : x 9 = d.sv) (e10 : x 10 = d.ev) (e11 : x 11 = d.rv) (e12 : x 12 = .int .i64 i) (e13 : x 13 = .int .i64 j) (e14 : x 14 = .int .i64 q) (hi : i < d.S.length) (hj : j < d.E.length) (hq : q < d.R.length) (hn : I64 n) (h : BnSt B w0 W b3 b6 c d 0 0) (hc : c.E.length = d.E.length /\ c.T.length = d.T.length /\ c.S.length = d.S.length) :
  Code.wp Tryz.prog (bentTail 9) (bodyPost Tryz.prog Tryz.f6 (BentP B c w0)) ⟨frameOf 288 x,[]⟩ W := by
 conv => arg 2; whnf
 rw [frame288];obtain ⟨gs,sc,hs,hsm⟩ := owns_form h.s h.pos.1;obtain ⟨ge,ec,he,hem⟩ := owns_form h.e h.pos.2.1;obtain ⟨gr,rc,hr,hrm⟩ := owns_form h.r h.pos.2.2;simp only [e2,e3,e6,e7,e9,e10,e11,e12,e13,e14,hs,he,hr];clear e2 e3 e6 e7 e9 e10 e11 e12 e13 e14;have hiz0 : (0 : Int) <= i := by omega
 have hiz : (i : Int) < d.S.length := by omega
 have hjz0 : (0 : Int) <= j := by omega
 have hjz : (j : Int) < d.E.length := by omega
 have hqz0 : (0 : Int) <= q := by omega
 have hqz : (q : Int) < d.R.length := by omega
 have HN := hide hn;have HC := hide hc;clear hn hc
 go_upto_block 0 with fail
 go_cut [9,10,15,16,17,18] from 49 to 280 (fun v9 v10 _ _ _ _ w' => ∃ d' m' q',v9 = d'.sv /\ v10 = d'.ev /\ .slice (some ⟨gr,0,none⟩) d.R.length rc = d'.rv /\ q' = m' * m' /\ BnSt B w0 w' b3 b6 c d' m' q')
 case first =>
   obtain ⟨v1,v2,v3,hb⟩ := h.box;have d1 := hb.cell 17 _ rfl;have z1 := hb.frozen 17;have hnew := h.setN 17 (.int .i64 n) ({ d with purse := n } : ConfD) ⟨rfl,rfl,rfl,rfl,rfl,rfl⟩ (fun _ _ _ => rfl) h.t h.ft 0 0 (h.cnt.same rfl rfl rfl rfl);have HNEW := hide hnew;have HV := hide (show d.sv = _ /\ d.ev = _ /\ d.rv = _ from ⟨hs,he,hr⟩);clear hnew hb h hs he hr;go_wp2
   go_meet
   case rel =>
    refine ⟨_,0,0, ?_, ?_, ?_,rfl,HNEW.out⟩
    ·exact HV.out.1.symm
    ·exact HV.out.2.1.symm
    ·exact HV.out.2.2.symm
 case rest =>
  obtain ⟨d',m',q',rfl,rfl,h11,rfl,hst⟩ := hcut
  (try simp only [Exit.inBlock,Exit.then])
  apply_assumption
  exact of_frame288 _ rfl (bent_end B w0 _ b3 b6 c d' m' _ rfl rfl rfl rfl h11 hst)
theorem bent_arm26 (B : Nat) (w0 W : World) (b3 b6 : Nat) (c d : ConfD) (n : Int) (i j q : Nat) (x : Nat -> Value) (e2 : x 2 = .int .i64 n) (e3 : x 3 = .pointer (some ⟨b3,0,none⟩)) (e6 : x 6 = .pointer (some ⟨b6,0,none⟩)) (e7 : x 7 = .int .i64 26) (e9 : x 9 = d.sv) (e10 : x 10 = d.ev) (e11 : x 11 = d.rv) (e12 : x 12 = .int .i64 i) (e13 : x 13 = .int .i64 j) (e14 : x 14 = .int .i64 q) (hi : i < d.S.length) (hj : j < d.E.length) (hq : q < d.R.length) (hn : I64 n) (h : BnSt B w0 W b3 b6 c d 0 0) (hc : c.E.length = d.E.length /\ c.T.length = d.T.length /\ c.S.length = d.S.length) :
  Code.wp Tryz.prog (bentTail 9) (bodyPost Tryz.prog Tryz.f6 (BentP B c w0)) ⟨frameOf 288 x,[]⟩ W := by
 conv => arg 2; whnf
 rw [frame288];obtain ⟨gs,sc,hs,hsm⟩ := owns_form h.s h.pos.1;obtain ⟨ge,ec,he,hem⟩ := owns_form h.e h.pos.2.1;obtain ⟨gr,rc,hr,hrm⟩ := owns_form h.r h.pos.2.2;simp only [e2,e3,e6,e7,e9,e10,e11,e12,e13,e14,hs,he,hr];clear e2 e3 e6 e7 e9 e10 e11 e12 e13 e14;have hiz0 : (0 : Int) <= i := by omega
 have hiz : (i : Int) < d.S.length := by omega
 have hjz0 : (0 : Int) <= j := by omega
 have hjz : (j : Int) < d.E.length := by omega
 have hqz0 : (0 : Int) <= q := by omega
 have hqz : (q : Int) < d.R.length := by omega
 have HN := hide hn;have HC := hide hc;clear hn hc
 go_upto_block 0 with fail
 go_cut [9,10,15,16,17,18] from 49 to 280 (fun v9 v10 _ _ _ _ w' => ∃ d' m' q',v9 = d'.sv /\ v10 = d'.ev /\ .slice (some ⟨gr,0,none⟩) d.R.length rc = d'.rv /\ q' = m' * m' /\ BnSt B w0 w' b3 b6 c d' m' q')
 case first =>
   obtain ⟨v1,v2,v3,hb⟩ := h.box;have d1 := hb.cell 18 _ rfl;have z1 := hb.frozen 18;have hnew := h.setN 18 (.int .i64 n) ({ d with horizon := n } : ConfD) ⟨rfl,rfl,rfl,rfl,rfl,rfl⟩ (fun _ _ _ => rfl) h.t h.ft 0 0 (h.cnt.same rfl rfl rfl rfl);have HNEW := hide hnew;have HV := hide (show d.sv = _ /\ d.ev = _ /\ d.rv = _ from ⟨hs,he,hr⟩);clear hnew hb h hs he hr;go_wp2
   go_meet
   case rel =>
    refine ⟨_,0,0, ?_, ?_, ?_,rfl,HNEW.out⟩
    ·exact HV.out.1.symm
    ·exact HV.out.2.1.symm
    ·exact HV.out.2.2.symm
 case rest =>
  obtain ⟨d',m',q',rfl,rfl,h11,rfl,hst⟩ := hcut
  (try simp only [Exit.inBlock,Exit.then])
  apply_assumption
  exact of_frame288 _ rfl (bent_end B w0 _ b3 b6 c d' m' _ rfl rfl rfl rfl h11 hst)
theorem bent_arm27 (B : Nat) (w0 W : World) (b3 b6 : Nat) (c d : ConfD) (n : Int) (i j q : Nat) (x : Nat -> Value) (e2 : x 2 = .int .i64 n) (e3 : x 3 = .pointer (some ⟨b3,0,none⟩)) (e6 : x 6 = .pointer (some ⟨b6,0,none⟩)) (e7 : x 7 = .int .i64 27) (e9 : x 9 = d.sv) (e10 : x 10 = d.ev) (e11 : x 11 = d.rv) (e12 : x 12 = .int .i64 i) (e13 : x 13 = .int .i64 j) (e14 : x 14 = .int .i64 q) (hi : i < d.S.length) (hj : j < d.E.length) (hq : q < d.R.length) (hn : I64 n) (h : BnSt B w0 W b3 b6 c d 0 0) (hc : c.E.length = d.E.length /\ c.T.length = d.T.length /\ c.S.length = d.S.length) :
  Code.wp Tryz.prog (bentTail 9) (bodyPost Tryz.prog Tryz.f6 (BentP B c w0)) ⟨frameOf 288 x,[]⟩ W := by
 conv => arg 2; whnf
 rw [frame288];obtain ⟨gs,sc,hs,hsm⟩ := owns_form h.s h.pos.1;obtain ⟨ge,ec,he,hem⟩ := owns_form h.e h.pos.2.1;obtain ⟨gr,rc,hr,hrm⟩ := owns_form h.r h.pos.2.2;simp only [e2,e3,e6,e7,e9,e10,e11,e12,e13,e14,hs,he,hr];clear e2 e3 e6 e7 e9 e10 e11 e12 e13 e14;have hiz0 : (0 : Int) <= i := by omega
 have hiz : (i : Int) < d.S.length := by omega
 have hjz0 : (0 : Int) <= j := by omega
 have hjz : (j : Int) < d.E.length := by omega
 have hqz0 : (0 : Int) <= q := by omega
 have hqz : (q : Int) < d.R.length := by omega
 have HN := hide hn;have HC := hide hc;clear hn hc
 go_upto_block 0 with fail
 go_cut [9,10,15,16,17,18] from 49 to 280 (fun v9 v10 _ _ _ _ w' => ∃ d' m' q',v9 = d'.sv /\ v10 = d'.ev /\ .slice (some ⟨gr,0,none⟩) d.R.length rc = d'.rv /\ q' = m' * m' /\ BnSt B w0 w' b3 b6 c d' m' q')
 case first =>
   obtain ⟨v1,v2,v3,hb⟩ := h.box;have d1 := hb.cell 19 _ rfl;have z1 := hb.frozen 19;have hnew := h.setN 19 (.int .i64 n) ({ d with sample := n } : ConfD) ⟨rfl,rfl,rfl,rfl,rfl,rfl⟩ (fun _ _ _ => rfl) h.t h.ft 0 0 (h.cnt.same rfl rfl rfl rfl);have HNEW := hide hnew;have HV := hide (show d.sv = _ /\ d.ev = _ /\ d.rv = _ from ⟨hs,he,hr⟩);clear hnew hb h hs he hr;go_wp2
   go_meet
   case rel =>
    refine ⟨_,0,0, ?_, ?_, ?_,rfl,HNEW.out⟩
    ·exact HV.out.1.symm
    ·exact HV.out.2.1.symm
    ·exact HV.out.2.2.symm
 case rest =>
  obtain ⟨d',m',q',rfl,rfl,h11,rfl,hst⟩ := hcut
  (try simp only [Exit.inBlock,Exit.then])
  apply_assumption
  exact of_frame288 _ rfl (bent_end B w0 _ b3 b6 c d' m' _ rfl rfl rfl rfl h11 hst)
end Go.Proofs.YtoaiakhnnfbkdaaGreatDoor
