/- Lemmas. -/
import Derived.Test.YtoaiakhnnfbkdaaGreatDoorZbn
import Derived.Test.YtoaiakhnnfbkdaaGreatDoorZbm
set_option maxRecDepth 100000
set_option maxHeartbeats 32000000
namespace Go.Proofs.YtoaiakhnnfbkdaaGreatDoor
open Go.ChangeShapes Go.WideShapes Go.ChangeAt Go.RowKit Go.Lib Go.Shelf Go.Maps
theorem bent_arm11 (B : Nat) (w0 W : World) (b3 b6 : Nat) (c d : ConfD) (n : Int) (i j q : Nat) (x : Nat -> Value) (e2 : x 2 = .int .i64 n) (e3 : x 3 = .pointer (some ⟨b3,0,none⟩)) (e6 : x 6 = .pointer (some ⟨b6,0,none⟩)) (e7 : x 7 = .int .i64 11) (e9 : x 9 = d.sv) (e10 : x 10 = d.ev) (e11 : x 11 = d.rv) (e12 : x 12 = .int .i64 i) (e13 : x 13 = .int .i64 j) (e14 : x 14 = .int .i64 q) (hi : i < d.S.length) (hj : j < d.E.length) (hq : q < d.R.length) (hn : I64 n) (h : BnSt B w0 W b3 b6 c d 0 0) (hc : c.E.length = d.E.length /\ c.T.length = d.T.length /\ c.S.length = d.S.length) :
  Code.wp Tryz.prog (bentTail 9) (bodyPost Tryz.prog Tryz.f6 (BentP B c w0)) ⟨frameOf 288 x,[]⟩ W := by
 conv => arg 2; whnf
 rw [frame288];obtain ⟨gs,sc,hs,hsm⟩ := owns_form h.s h.pos.1;obtain ⟨ge,ec,he,hem⟩ := owns_form h.e h.pos.2.1;obtain ⟨gr,rc,hr,hrm⟩ := owns_form h.r h.pos.2.2;simp only [e2,e3,e6,e7,e9,e10,e11,e12,e13,e14,hs,he,hr];clear e2 e3 e6 e7 e9 e10 e11 e12 e13 e14;have hiz0 : (0 : Int) <= i := by omega
 have hiz : (i : Int) < d.S.length := by omega
 have hjz0 : (0 : Int) <= j := by omega
 have hjz : (j : Int) < d.E.length := by omega
 have hqz0 : (0 : Int) <= q := by omega
 have hqz : (q : Int) < d.R.length := by omega
 have HN := hide hn;have HC := hide hc;clear hn hc
 go_upto_block 0 with fail
 go_cut [9,10,15,16,17,18] from 49 to 280 (fun v9 v10 _ _ _ _ w' => ∃ d' m' q',v9 = d'.sv /\ v10 = d'.ev /\ .slice (some ⟨gr,0,none⟩) d.R.length rc = d'.rv /\ q' = m' * m' /\ BnSt B w0 w' b3 b6 c d' m' q')
 case first =>
   have hrow := h.r;rw [hr] at hrow;obtain ⟨d1,z1⟩ := cell_row encR_len hrow q hq 3 _ rfl;have hlt := (h.r.lt gr (by rw [hr]; rfl)).2;have hwz := h.keep.size;have hBz := h.hB;have hal : Ext W (W.alloc (.cells #[.int .i64 n,.int .i64 1] 72)) := za;have hlit := World.ownsRow_lit (base := B) (e := 72) (size := 2) W #[.int .i64 n,.int .i64 1] 1 (by omega) (by unfold maxLen; omega) rfl;have hx := (h.ext hal);have hrq := hx.rr _ (List.getElem_mem hq);have hfq := h.fr _ (List.getElem_mem hq);have hnew := hx.setR (g := gr) (cap := rc) hr q hq 3 (by decide) (.slice (some ⟨W.heap.size,0,none⟩) 1 1) ({ d.R[q] with pv := .slice (some ⟨W.heap.size,0,none⟩) 1 1,P := [(n,1)] } : RuleD) rfl ⟨hrq.1,hlit,hrq.2.2.1,hrq.2.2.2⟩ ⟨⟨hfq.1.1,hfq.1.2.1,hfq.1.2.2.1,hfq.1.2.2.2.1,hfq.1.2.2.2.2.1,fun p hp => (by rw [List.mem_singleton.1 hp]; exact ⟨HN.out,by constructor <;> omega⟩),by simp⟩,hfq.2⟩
   rw [World.setCell_alloc_past _ _ _ _ hlt] at hnew;have HNEW := hide hnew;have HV := hide (show d.sv = _ /\ d.ev = _ /\ d.rv = _ from ⟨hs,he,hr⟩);clear hnew hrow h hs he hr hal hlit hx hrq hfq hwz hBz;go_wp2
   go_meet
   case rel =>
    refine ⟨_,0,0, ?_, ?_, ?_,rfl,HNEW.out⟩
    ·exact HV.out.1.symm
    ·exact HV.out.2.1.symm
    ·exact HV.out.2.2.symm
 case rest =>
  obtain ⟨d',m',q',rfl,rfl,h11,rfl,hst⟩ := hcut
  (try simp only [Exit.inBlock,Exit.then])
  apply_assumption
  exact of_frame288 _ rfl (bent_end B w0 _ b3 b6 c d' m' _ rfl rfl rfl rfl h11 hst)
theorem bent_arm15 (B : Nat) (w0 W : World) (b3 b6 : Nat) (c d : ConfD) (n : Int) (i j q : Nat) (x : Nat -> Value) (e2 : x 2 = .int .i64 n) (e3 : x 3 = .pointer (some ⟨b3,0,none⟩)) (e6 : x 6 = .pointer (some ⟨b6,0,none⟩)) (e7 : x 7 = .int .i64 15) (e9 : x 9 = d.sv) (e10 : x 10 = d.ev) (e11 : x 11 = d.rv) (e12 : x 12 = .int .i64 i) (e13 : x 13 = .int .i64 j) (e14 : x 14 = .int .i64 q) (hi : i < d.S.length) (hj : j < d.E.length) (hq : q < d.R.length) (hn : I64 n) (h : BnSt B w0 W b3 b6 c d 0 0) (hc : c.E.length = d.E.length /\ c.T.length = d.T.length /\ c.S.length = d.S.length) :
  Code.wp Tryz.prog (bentTail 9) (bodyPost Tryz.prog Tryz.f6 (BentP B c w0)) ⟨frameOf 288 x,[]⟩ W := by
 conv => arg 2; whnf
 rw [frame288];obtain ⟨gs,sc,hs,hsm⟩ := owns_form h.s h.pos.1;obtain ⟨ge,ec,he,hem⟩ := owns_form h.e h.pos.2.1;obtain ⟨gr,rc,hr,hrm⟩ := owns_form h.r h.pos.2.2;simp only [e2,e3,e6,e7,e9,e10,e11,e12,e13,e14,hs,he,hr];clear e2 e3 e6 e7 e9 e10 e11 e12 e13 e14;have hiz0 : (0 : Int) <= i := by omega
 have hiz : (i : Int) < d.S.length := by omega
 have hjz0 : (0 : Int) <= j := by omega
 have hjz : (j : Int) < d.E.length := by omega
 have hqz0 : (0 : Int) <= q := by omega
 have hqz : (q : Int) < d.R.length := by omega
 have HN := hide hn;have HC := hide hc;clear hn hc
 go_upto_block 0 with fail
 go_cut [9,10,15,16,17,18] from 49 to 280 (fun v9 v10 _ _ _ _ w' => ∃ d' m' q',v9 = d'.sv /\ v10 = d'.ev /\ .slice (some ⟨gr,0,none⟩) d.R.length rc = d'.rv /\ q' = m' * m' /\ BnSt B w0 w' b3 b6 c d' m' q')
 case first =>
   obtain ⟨v1,v2,v3,hb⟩ := h.box;obtain ⟨ta,tc,htv⟩ := owns_shape h.t;have d1 : W.cell? ⟨b3,3,none⟩ = some (.slice ta d.T.length tc) := (by rw [<- htv]; exact hb.cell 3 _ rfl);have z1 := hb.frozen 3;have hwz := h.keep.size;have hBz := h.hB;have hcn := h.cnt;have hal : Ext W (W.alloc (.cells #[.int .i64 n,.int .i64 5,.int .i64 1] 55)) := za;have hlit := World.ownsRow_lit (base := B) (e := 55) (size := 3) W #[.int .i64 n,.int .i64 5,.int .i64 1] 1 (by omega) (by unfold maxLen; omega) rfl;have hnew := (h.ext hal).setN 3 (.slice (some ⟨W.heap.size,0,none⟩) 1 1) ({ d with tv := .slice (some ⟨W.heap.size,0,none⟩) 1 1,T := [⟨n,5,1⟩] } : ConfD) ⟨rfl,rfl,rfl,rfl,rfl,rfl⟩ (fun _ _ _ => rfl) hlit (fun g hg => by cases hg; exact .inr hwz) 0 0 ⟨hcn.1,hcn.2.1,(show 1 <= c.T.length + 6 by omega),hcn.2.2.2.1,by omega,.inl rfl⟩;rw [World.setCell_alloc_past _ _ _ _ hb.lt] at hnew;have hlt := hb.lt;have HNEW := hide hnew;have HV := hide (show d.sv = _ /\ d.ev = _ /\ d.rv = _ from ⟨hs,he,hr⟩);clear hnew hb h hs he hr hal hlit hwz hBz hcn htv;go_wp2
   go_meet
   case rel =>
    refine ⟨_,0,0, ?_, ?_, ?_,rfl,HNEW.out⟩
    ·exact HV.out.1.symm
    ·exact HV.out.2.1.symm
    ·exact HV.out.2.2.symm
 case rest =>
  obtain ⟨d',m',q',rfl,rfl,h11,rfl,hst⟩ := hcut
  (try simp only [Exit.inBlock,Exit.then])
  apply_assumption
  exact of_frame288 _ rfl (bent_end B w0 _ b3 b6 c d' m' _ rfl rfl rfl rfl h11 hst)
theorem bent_arm16 (B : Nat) (w0 W : World) (b3 b6 : Nat) (c d : ConfD) (n : Int) (i j q : Nat) (x : Nat -> Value) (e2 : x 2 = .int .i64 n) (e3 : x 3 = .pointer (some ⟨b3,0,none⟩)) (e6 : x 6 = .pointer (some ⟨b6,0,none⟩)) (e7 : x 7 = .int .i64 16) (e9 : x 9 = d.sv) (e10 : x 10 = d.ev) (e11 : x 11 = d.rv) (e12 : x 12 = .int .i64 i) (e13 : x 13 = .int .i64 j) (e14 : x 14 = .int .i64 q) (hi : i < d.S.length) (hj : j < d.E.length) (hq : q < d.R.length) (hn : I64 n) (h : BnSt B w0 W b3 b6 c d 0 0) (hc : c.E.length = d.E.length /\ c.T.length = d.T.length /\ c.S.length = d.S.length) :
  Code.wp Tryz.prog (bentTail 9) (bodyPost Tryz.prog Tryz.f6 (BentP B c w0)) ⟨frameOf 288 x,[]⟩ W := by
 conv => arg 2; whnf
 rw [frame288];obtain ⟨gs,sc,hs,hsm⟩ := owns_form h.s h.pos.1;obtain ⟨ge,ec,he,hem⟩ := owns_form h.e h.pos.2.1;obtain ⟨gr,rc,hr,hrm⟩ := owns_form h.r h.pos.2.2;simp only [e2,e3,e6,e7,e9,e10,e11,e12,e13,e14,hs,he,hr];clear e2 e3 e6 e7 e9 e10 e11 e12 e13 e14;have hiz0 : (0 : Int) <= i := by omega
 have hiz : (i : Int) < d.S.length := by omega
 have hjz0 : (0 : Int) <= j := by omega
 have hjz : (j : Int) < d.E.length := by omega
 have hqz0 : (0 : Int) <= q := by omega
 have hqz : (q : Int) < d.R.length := by omega
 have HN := hide hn;have HC := hide hc;clear hn hc
 go_upto_block 0 with fail
 go_cut [9,10,15,16,17,18] from 49 to 280 (fun v9 v10 _ _ _ _ w' => ∃ d' m' q',v9 = d'.sv /\ v10 = d'.ev /\ .slice (some ⟨gr,0,none⟩) d.R.length rc = d'.rv /\ q' = m' * m' /\ BnSt B w0 w' b3 b6 c d' m' q')
 case first =>
   obtain ⟨v1,v2,v3,hb⟩ := h.box;obtain ⟨ta,tc,htv⟩ := owns_shape h.t;have d1 : W.cell? ⟨b3,3,none⟩ = some (.slice ta d.T.length tc) := (by rw [<- htv]; exact hb.cell 3 _ rfl);have z1 := hb.frozen 3;have hwz := h.keep.size;have hBz := h.hB;have hcn := h.cnt;have hal : Ext W (W.alloc (.cells #[.int .i64 5,.int .i64 n,.int .i64 1] 55)) := za;have hlit := World.ownsRow_lit (base := B) (e := 55) (size := 3) W #[.int .i64 5,.int .i64 n,.int .i64 1] 1 (by omega) (by unfold maxLen; omega) rfl;have hnew := (h.ext hal).setN 3 (.slice (some ⟨W.heap.size,0,none⟩) 1 1) ({ d with tv := .slice (some ⟨W.heap.size,0,none⟩) 1 1,T := [⟨5,n,1⟩] } : ConfD) ⟨rfl,rfl,rfl,rfl,rfl,rfl⟩ (fun _ _ _ => rfl) hlit (fun g hg => by cases hg; exact .inr hwz) 0 0 ⟨hcn.1,hcn.2.1,(show 1 <= c.T.length + 6 by omega),hcn.2.2.2.1,by omega,.inl rfl⟩;rw [World.setCell_alloc_past _ _ _ _ hb.lt] at hnew;have hlt := hb.lt;have HNEW := hide hnew;have HV := hide (show d.sv = _ /\ d.ev = _ /\ d.rv = _ from ⟨hs,he,hr⟩);clear hnew hb h hs he hr hal hlit hwz hBz hcn htv;go_wp2
   go_meet
   case rel =>
    refine ⟨_,0,0, ?_, ?_, ?_,rfl,HNEW.out⟩
    ·exact HV.out.1.symm
    ·exact HV.out.2.1.symm
    ·exact HV.out.2.2.symm
 case rest =>
  obtain ⟨d',m',q',rfl,rfl,h11,rfl,hst⟩ := hcut
  (try simp only [Exit.inBlock,Exit.then])
  apply_assumption
  exact of_frame288 _ rfl (bent_end B w0 _ b3 b6 c d' m' _ rfl rfl rfl rfl h11 hst)
theorem bent_arm17 (B : Nat) (w0 W : World) (b3 b6 : Nat) (c d : ConfD) (n : Int) (i j q : Nat) (x : Nat -> Value) (e2 : x 2 = .int .i64 n) (e3 : x 3 = .pointer (some ⟨b3,0,none⟩)) (e6 : x 6 = .pointer (some ⟨b6,0,none⟩)) (e7 : x 7 = .int .i64 17) (e9 : x 9 = d.sv) (e10 : x 10 = d.ev) (e11 : x 11 = d.rv) (e12 : x 12 = .int .i64 i) (e13 : x 13 = .int .i64 j) (e14 : x 14 = .int .i64 q) (hi : i < d.S.length) (hj : j < d.E.length) (hq : q < d.R.length) (hn : I64 n) (h : BnSt B w0 W b3 b6 c d 0 0) (hc : c.E.length = d.E.length /\ c.T.length = d.T.length /\ c.S.length = d.S.length) :
  Code.wp Tryz.prog (bentTail 9) (bodyPost Tryz.prog Tryz.f6 (BentP B c w0)) ⟨frameOf 288 x,[]⟩ W := by
 conv => arg 2; whnf
 rw [frame288];obtain ⟨gs,sc,hs,hsm⟩ := owns_form h.s h.pos.1;obtain ⟨ge,ec,he,hem⟩ := owns_form h.e h.pos.2.1;obtain ⟨gr,rc,hr,hrm⟩ := owns_form h.r h.pos.2.2;simp only [e2,e3,e6,e7,e9,e10,e11,e12,e13,e14,hs,he,hr];clear e2 e3 e6 e7 e9 e10 e11 e12 e13 e14;have hiz0 : (0 : Int) <= i := by omega
 have hiz : (i : Int) < d.S.length := by omega
 have hjz0 : (0 : Int) <= j := by omega
 have hjz : (j : Int) < d.E.length := by omega
 have hqz0 : (0 : Int) <= q := by omega
 have hqz : (q : Int) < d.R.length := by omega
 have HN := hide hn;have HC := hide hc;clear hn hc
 go_upto_block 0 with fail
 go_cut [9,10,15,16,17,18] from 49 to 280 (fun v9 v10 _ _ _ _ w' => ∃ d' m' q',v9 = d'.sv /\ v10 = d'.ev /\ .slice (some ⟨gr,0,none⟩) d.R.length rc = d'.rv /\ q' = m' * m' /\ BnSt B w0 w' b3 b6 c d' m' q')
 case first =>
   obtain ⟨v1,v2,v3,hb⟩ := h.box;obtain ⟨ta,tc,htv⟩ := owns_shape h.t;have d1 : W.cell? ⟨b3,3,none⟩ = some (.slice ta d.T.length tc) := (by rw [<- htv]; exact hb.cell 3 _ rfl);have z1 := hb.frozen 3;have hwz := h.keep.size;have hBz := h.hB;have hcn := h.cnt;have hal : Ext W (W.alloc (.cells #[.int .i64 5,.int .i64 5,.int .i64 n] 55)) := za;have hlit := World.ownsRow_lit (base := B) (e := 55) (size := 3) W #[.int .i64 5,.int .i64 5,.int .i64 n] 1 (by omega) (by unfold maxLen; omega) rfl;have hnew := (h.ext hal).setN 3 (.slice (some ⟨W.heap.size,0,none⟩) 1 1) ({ d with tv := .slice (some ⟨W.heap.size,0,none⟩) 1 1,T := [⟨5,5,n⟩] } : ConfD) ⟨rfl,rfl,rfl,rfl,rfl,rfl⟩ (fun _ _ _ => rfl) hlit (fun g hg => by cases hg; exact .inr hwz) 0 0 ⟨hcn.1,hcn.2.1,(show 1 <= c.T.length + 6 by omega),hcn.2.2.2.1,by omega,.inl rfl⟩;rw [World.setCell_alloc_past _ _ _ _ hb.lt] at hnew;have hlt := hb.lt;have HNEW := hide hnew;have HV := hide (show d.sv = _ /\ d.ev = _ /\ d.rv = _ from ⟨hs,he,hr⟩);clear hnew hb h hs he hr hal hlit hwz hBz hcn htv;go_wp2
   go_meet
   case rel =>
    refine ⟨_,0,0, ?_, ?_, ?_,rfl,HNEW.out⟩
    ·exact HV.out.1.symm
    ·exact HV.out.2.1.symm
    ·exact HV.out.2.2.symm
 case rest =>
  obtain ⟨d',m',q',rfl,rfl,h11,rfl,hst⟩ := hcut
  (try simp only [Exit.inBlock,Exit.then])
  apply_assumption
  exact of_frame288 _ rfl (bent_end B w0 _ b3 b6 c d' m' _ rfl rfl rfl rfl h11 hst)
theorem bent_arm6 (B : Nat) (w0 W : World) (b3 b6 : Nat) (c d : ConfD) (n : Int) (i j q : Nat) (x : Nat -> Value) (e2 : x 2 = .int .i64 n) (e3 : x 3 = .pointer (some ⟨b3,0,none⟩)) (e6 : x 6 = .pointer (some ⟨b6,0,none⟩)) (e7 : x 7 = .int .i64 6) (e9 : x 9 = d.sv) (e10 : x 10 = d.ev) (e11 : x 11 = d.rv) (e12 : x 12 = .int .i64 i) (e13 : x 13 = .int .i64 j) (e14 : x 14 = .int .i64 q) (hi : i < d.S.length) (hj : j < d.E.length) (hq : q < d.R.length) (hn : I64 n) (h : BnSt B w0 W b3 b6 c d 0 0) (hc : c.E.length = d.E.length /\ c.T.length = d.T.length /\ c.S.length = d.S.length) :
  Code.wp Tryz.prog (bentTail 9) (bodyPost Tryz.prog Tryz.f6 (BentP B c w0)) ⟨frameOf 288 x,[]⟩ W := by
 conv => arg 2; whnf
 rw [frame288];obtain ⟨gs,sc,hs,hsm⟩ := owns_form h.s h.pos.1;obtain ⟨ge,ec,he,hem⟩ := owns_form h.e h.pos.2.1;obtain ⟨gr,rc,hr,hrm⟩ := owns_form h.r h.pos.2.2;simp only [e2,e3,e6,e7,e9,e10,e11,e12,e13,e14,hs,he,hr];clear e2 e3 e6 e7 e9 e10 e11 e12 e13 e14;have hiz0 : (0 : Int) <= i := by omega
 have hiz : (i : Int) < d.S.length := by omega
 have hjz0 : (0 : Int) <= j := by omega
 have hjz : (j : Int) < d.E.length := by omega
 have hqz0 : (0 : Int) <= q := by omega
 have hqz : (q : Int) < d.R.length := by omega
 have HN := hide hn;have HC := hide hc;clear hn hc;have har := around_bd n 5 (by decide);obtain ⟨a,ha⟩ : ∃ a : Nat,around n 5 = (a : Int) := ⟨(around n 5).toNat,by omega⟩;have hcall := fun X => around_any n 5 X HN.out (by omega);rw [ha] at har;simp only [ha] at hcall;have ha5 : a < 5 := by omega
 have haz0 : (0 : Int) <= a := by omega
 have haz : (a : Int) < 5 := by omega
 have HAR := hide hcall;have H := hide h;have hx5 : Ext W (W.alloc (.cells #[.string ⟨#[]⟩,.string ⟨#[97]⟩,.string ⟨#[47]⟩,.string ⟨#[47,97,47]⟩,.string ⟨#[47,98]⟩] 9)) := za
 have hcell : ∃ s : ByteArray,(W.alloc (.cells #[.string ⟨#[]⟩,.string ⟨#[97]⟩,.string ⟨#[47]⟩,.string ⟨#[47,97,47]⟩,.string ⟨#[47,98]⟩] 9)).cell? ⟨W.heap.size,a,none⟩ = some (.string s) /\ SzB s := by
  rw [World.cell?_alloc_at _ _ _ _ rfl];have : a = 0 \/ a = 1 \/ a = 2 \/ a = 3 \/ a = 4 := by omega
  rcases this with rfl | rfl | rfl | rfl | rfl <;> exact ⟨_,rfl,by unfold SzB; decide⟩
 obtain ⟨sk,hcell,hsk⟩ := hcell;have HV := hide (show d.sv = _ /\ d.ev = _ /\ d.rv = _ from ⟨hs,he,hr⟩);clear har hcall ha h hs he hr
 go_upto_block 0 with fail
 go_cut [9,10,15,16,17,18] from 49 to 280 (fun v9 v10 _ _ _ _ w' => ∃ d' m' q',v9 = d'.sv /\ v10 = d'.ev /\ .slice (some ⟨gr,0,none⟩) d.R.length rc = d'.rv /\ q' = m' * m' /\ BnSt B w0 w' b3 b6 c d' m' q')
 case first =>
   go_wp2_with fail
   refine (HAR.out _).mono ?_;rintro e w' ⟨rfl,rfl⟩;generalize W.alloc (.cells #[.string ⟨#[]⟩,.string ⟨#[97]⟩,.string ⟨#[47]⟩,.string ⟨#[47,97,47]⟩,.string ⟨#[47,98]⟩] 9) = W5 at hx5 hcell ⊢;obtain ⟨b5,hb5⟩ : ∃ b,W.heap.size = b := ⟨_,rfl⟩;rw [hb5] at hcell ⊢;have h5 := H.out.ext hx5;have hrow := h5.s;rw [HV.out.1] at hrow;obtain ⟨d1,z1⟩ := cell_row encV_len hrow i hi 1 _ rfl;have hlt := (h5.s.lt gs (by rw [HV.out.1]; rfl)).2;have hwz := h5.keep.size;have hBz := h5.hB;have hal : Ext W5 (W5.alloc (.cells #[.string ⟨#[47,97]⟩,.string sk] 9)) := za;have hlit := World.ownsRow_lit (base := B) (e := 9) (size := 1) W5 #[.string ⟨#[47,97]⟩,.string sk] 2 (by omega) (by unfold maxLen; omega) rfl;have hx := h5.ext hal;have hfq := h5.fs _ (List.getElem_mem hi);obtain ⟨csg,fz,hgc⟩ := ownsRow_kind hx.s gs (by rw [HV.out.1]; rfl);have hk9 := owns_keepT hlit (Keeps.of_set (X := fun q => q = gs) (W5.alloc (.cells #[.string ⟨#[47,97]⟩,.string sk] 9)) gs (i * 7 + 1) (.slice (some ⟨W5.heap.size,0,none⟩) 2 2) rfl) (OfT.one hgc) (by decide)
   have hnew := hx.setS (g := gs) (cap := sc) HV.out.1 i hi 1 (by decide) (.slice (some ⟨W5.heap.size,0,none⟩) 2 2) ({ d.S[i] with kv := .slice (some ⟨W5.heap.size,0,none⟩) 2 2,K := [⟨#[47,97]⟩,sk] } : SvcD) rfl (.inr hk9) ⟨hfq.1,hfq.2.1,hfq.2.2.1,hfq.2.2.2.1,hfq.2.2.2.2.1,hfq.2.2.2.2.2.1,fun p hp => by
    rcases List.mem_cons.1 hp with rfl | hp
    ·unfold SzB; decide
    ·rw [List.mem_singleton.1 hp]; exact hsk⟩
   rw [World.setCell_alloc_past _ _ _ _ hlt] at hnew;have HNEW := hide hnew;clear hnew hrow hal hlit hx hfq hwz hBz h5 hgc hk9 hx5 hb5 H HAR;go_wp2
   go_meet
   case rel =>
    refine ⟨_,0,0, ?_, ?_, ?_,rfl,HNEW.out⟩
    ·exact HV.out.1.symm
    ·exact HV.out.2.1.symm
    ·exact HV.out.2.2.symm
 case rest =>
  obtain ⟨d',m',q',rfl,rfl,h11,rfl,hst⟩ := hcut
  (try simp only [Exit.inBlock,Exit.then])
  apply_assumption
  exact of_frame288 _ rfl (bent_end B w0 _ b3 b6 c d' m' _ rfl rfl rfl rfl h11 hst)
theorem bent_arm7 (B : Nat) (w0 W : World) (b3 b6 : Nat) (c d : ConfD) (n : Int) (i j q : Nat) (x : Nat -> Value) (e2 : x 2 = .int .i64 n) (e3 : x 3 = .pointer (some ⟨b3,0,none⟩)) (e6 : x 6 = .pointer (some ⟨b6,0,none⟩)) (e7 : x 7 = .int .i64 7) (e9 : x 9 = d.sv) (e10 : x 10 = d.ev) (e11 : x 11 = d.rv) (e12 : x 12 = .int .i64 i) (e13 : x 13 = .int .i64 j) (e14 : x 14 = .int .i64 q) (hi : i < d.S.length) (hj : j < d.E.length) (hq : q < d.R.length) (hn : I64 n) (h : BnSt B w0 W b3 b6 c d 0 0) (hc : c.E.length = d.E.length /\ c.T.length = d.T.length /\ c.S.length = d.S.length) :
  Code.wp Tryz.prog (bentTail 9) (bodyPost Tryz.prog Tryz.f6 (BentP B c w0)) ⟨frameOf 288 x,[]⟩ W := by
 conv => arg 2; whnf
 rw [frame288];obtain ⟨gs,sc,hs,hsm⟩ := owns_form h.s h.pos.1;obtain ⟨ge,ec,he,hem⟩ := owns_form h.e h.pos.2.1;obtain ⟨gr,rc,hr,hrm⟩ := owns_form h.r h.pos.2.2;simp only [e2,e3,e6,e7,e9,e10,e11,e12,e13,e14,hs,he,hr];clear e2 e3 e6 e7 e9 e10 e11 e12 e13 e14;have hiz0 : (0 : Int) <= i := by omega
 have hiz : (i : Int) < d.S.length := by omega
 have hjz0 : (0 : Int) <= j := by omega
 have hjz : (j : Int) < d.E.length := by omega
 have hqz0 : (0 : Int) <= q := by omega
 have hqz : (q : Int) < d.R.length := by omega
 have HN := hide hn;have HC := hide hc;clear hn hc;obtain ⟨i0,hi0,hz0,hz1,hz2⟩ := info_z' Tryz.infoS;have har := around_bd n 6 (by decide);obtain ⟨a,ha⟩ : ∃ a : Nat,around n 6 = (a : Int) := ⟨(around n 6).toNat,by omega⟩;have hcall := fun X => around_any n 6 X HN.out (by omega);rw [ha] at har;simp only [ha] at hcall;have ha5 : a <= 5 := by omega
 obtain ⟨CS,hcs,hmk⟩ : ∃ CS : Array Value,CS.toList = (List.replicate a ByteArray.empty).flatMap encS /\ ∀ u : World,(Instr.makeSlice 49 (.int .i64 a) (.int .i64 a)).run Tryz.prog u = .ok (.slice (some ⟨u.heap.size,0,none⟩) a a) (u.alloc (.cells CS 9)) :=
  ⟨madeCells (Value.string ByteArray.empty).cells (a * i0.size),by
   rw [hz1,Nat.mul_one];show (madeCells #[.string ByteArray.empty] a).toList = _;rw [toList_madeCells_one];clear ha5 har ha hcall
   induction a with
   | zero => rfl
   | succ a ih => rw [List.replicate_succ,List.replicate_succ,List.flatMap_cons,<- ih]; rfl,fun u => by simpa using run_makeSlice (P := Tryz.prog) u 49 9 i0 _ Tryz.underlying49 hi0 hz0 .i64 .i64 a a (by omega) (by omega) (by rw [hz1]; omega) (by rw [hz2]; omega) (by omega)⟩
 have hcsz : CS.size = a * 1 := by
  have := congrArg List.length hcs;rw [Array.length_toList,length_flatMap_enc (size := 1) (fun _ => rfl)] at this;simpa using this
 have HAR := hide hcall;have hrow := h.s;rw [hs] at hrow;obtain ⟨d1,z1⟩ := cell_row encV_len hrow i hi 1 _ rfl;have hlt := (h.s.lt gs (by rw [hs]; rfl)).2;have hge := (h.s.lt gs (by rw [hs]; rfl)).1;have hwz := h.keep.size;have hBz := h.hB;obtain ⟨csg,fz,hgc⟩ := ownsRow_kind h.s gs (by rw [hs]; rfl);obtain ⟨xF,hxF⟩ : ∃ xF : SvcD,xF = { d.S[i] with kv := .slice (some ⟨W.heap.size,0,none⟩) a a,K := List.replicate a (⟨#[47,98]⟩ : ByteArray) } := ⟨_,rfl⟩;have hS1 := owns_set1 encV_len hrow i 1 hi (by decide) (.slice (some ⟨W.heap.size,0,none⟩) a a) xF (by rw [hxF]; rfl);have hks := Keeps.of_set (X := fun q => q = gs) W gs (i * 7 + 1) (.slice (some ⟨W.heap.size,0,none⟩) a a) rfl;have hsz : (W.setCell ⟨gs,i * 7 + 1,none⟩ (.slice (some ⟨W.heap.size,0,none⟩) a a)).heap.size = W.heap.size := by simp [World.setCell]
 have hlit := World.ownsRow_lit (base := B) (e := 9) (size := 1) (W.setCell ⟨gs,i * 7 + 1,none⟩ (.slice (some ⟨W.heap.size,0,none⟩) a a)) CS a (by omega) (by unfold maxLen; omega) hcsz;rw [hsz,hcs] at hlit;have hal : Ext (W.setCell ⟨gs,i * 7 + 1,none⟩ (.slice (some ⟨W.heap.size,0,none⟩) a a)) ((W.setCell ⟨gs,i * 7 + 1,none⟩ (.slice (some ⟨W.heap.size,0,none⟩) a a)).alloc (.cells CS 9)) := za;have hks1 := hks.trans (Keeps.of_ext hal);have hS2 := owns_ext hS1 hal;obtain ⟨b5,hb5⟩ : ∃ b,W.heap.size = b := ⟨_,rfl⟩;have H := hide h;have HV := hide (show d.sv = _ /\ d.ev = _ /\ d.rv = _ from ⟨hs,he,hr⟩);have HF := hide hxF;have hrowA := owns_ext hrow (za : Ext W (W.alloc (.cells CS 9)));obtain ⟨d1a,z1a⟩ := cell_row encV_len hrowA i hi 1 _ rfl;have hmk1 := hmk (W.setCell ⟨gs,i * 7 + 1,none⟩ (.slice (some ⟨W.heap.size,0,none⟩) a a));have hmk0 := hmk W;clear har hcall ha h hs he hr hrowA hrow hS1 hks hsz hal hxF hmk1 hcs
 go_upto_block 0 with fail
 go_cut [9,10,15,16,17,18] from 49 to 280 (fun v9 v10 _ _ _ _ w' => ∃ d' m' q',v9 = d'.sv /\ v10 = d'.ev /\ .slice (some ⟨gr,0,none⟩) d.R.length rc = d'.rv /\ q' = m' * m' /\ BnSt B w0 w' b3 b6 c d' m' q')
 case first =>
   go_wp2_with fail
   refine (HAR.out _).mono ?_;rintro e w' ⟨rfl,rfl⟩
   go_upto_region 34 with (fail)
   rw [<- World.setCell_alloc_past _ _ _ _ hlt] at hlit hks1 hS2;rw [hb5] at hlit hks1 hS2 hlt hwz;generalize (W.alloc (.cells CS 9)).setCell ⟨gs,i * 7 + 1,none⟩ (.slice (some ⟨b5,0,none⟩) a a) = W1 at hlit hks1 hS2 ⊢;clear d1 z1 d1a z1a hmk0 hmk;have HL := hide hlit;have HK := hide hks1;have HS2 := hide hS2;clear hlit hks1 hS2
   go_wp2_with fail
   go_loopw [15] (fun v15 wr => ∃ y : Nat,y <= a /\ v15 = .int .i64 y /\ Hid (Keeps (fun q => q = b5) W1 wr) /\ Hid (wr.ownsRow B 9 1 (.slice (some ⟨b5,0,none⟩) a a) a ((List.replicate y (⟨#[47,98]⟩ : ByteArray) ++ List.replicate (a - y) ByteArray.empty).flatMap encS))) (fun y _ => a - (intOf y).toNat)
   case atStart => exact ⟨0,Nat.zero_le _,rfl,Keeps.refl _ _,hide (by simpa using HL.out)⟩
   case round =>
    obtain ⟨y,hya,rfl,hk,ho⟩ := hrel;generalize wr = w1 at *
    have hofs : OfT w1 (fun q => q = b5) 9 := by
     obtain ⟨cs,f,hc⟩ := ownsRow_kind ho.out b5 rfl;exact OfT.one hc
    have hofS : OfT W1 (fun q => q = b5) 9 := by
     obtain ⟨cs,f,hc⟩ := ownsRow_kind HL.out b5 rfl;exact OfT.one hc
    have hS3 := owns_keepT HS2.out hk.out hofS (by decide);obtain ⟨d1,z1⟩ := cell_row (xs := d.S.set i xF) encV_len hS3 i (by rw [List.length_set]; exact hi) 1 _ rfl;rw [List.getElem_set_self,HF.out] at d1;rw [hb5] at d1;have d1 : w1.cell? ⟨gs,i * 7 + 1,none⟩ = some (.slice (some ⟨b5,0,none⟩) a a) := d1;have HS3 := hide hS3;clear hS3;by_cases hy : y < a
    ·have hyz : (y : Int) < a := (by omega);have hyz0 : (0 : Int) <= y := (by omega);have hwi : IntKind.i64.wrap ((y : Int) + 1) = ((y + 1 : Nat) : Int) := (by rw [IntKind.wrap_i64]; omega);have hyl : y < (List.replicate y (⟨#[47,98]⟩ : ByteArray) ++ List.replicate (a - y) ByteArray.empty).length := (by simp; omega);obtain ⟨d2,z2⟩ := cell_row (enc := encS) (fun _ => rfl) ho.out y hyl 0 _ rfl;have hnx := owns_set1 (enc := encS) (fun _ => rfl) ho.out y 0 hyl (by decide) (.string (⟨#[47,98]⟩ : ByteArray)) (⟨#[47,98]⟩ : ByteArray) rfl
     have hst : (List.replicate y (⟨#[47,98]⟩ : ByteArray) ++ List.replicate (a - y) ByteArray.empty).set y (⟨#[47,98]⟩ : ByteArray) = List.replicate (y + 1) (⟨#[47,98]⟩ : ByteArray) ++ List.replicate (a - (y + 1)) ByteArray.empty := by
      rw [List.set_append_right _ _ (by simp),List.length_replicate,Nat.sub_self,show a - y = (a - (y + 1)) + 1 by omega,List.replicate_succ,List.set_cons_zero,List.replicate_succ',List.append_assoc];rfl
     rw [hst] at hnx;simp only [Nat.mul_one,Nat.add_zero] at d2 z2 hnx;have HNX := hide hnx;have HKX := hide (hk.out.trans (Keeps.of_set (X := fun q => q = b5) w1 b5 y (.string (⟨#[47,98]⟩ : ByteArray)) rfl));clear hnx hst hk ho;go_wp2
     go_roundw
     case rel => exact ⟨y + 1,by omega,by go_num,HKX.out,HNX.out⟩
     case measure => (simp [intOf]) <;> omega
    ·obtain rfl : y = a := (by omega);have hfin := ho.out;rw [Nat.sub_self,List.replicate_zero,List.append_nil] at hfin;have hkw : Keeps (fun q => q = gs) W w1 := ⟨hk.out.os.trans HK.out.os,hk.out.tape.trans HK.out.tape,hk.out.output.trans HK.out.output,Nat.le_trans HK.out.size hk.out.size,fun u hu hx => (hk.out.block u (Nat.lt_of_lt_of_le hu HK.out.size) (by omega)).trans (HK.out.block u hu hx)⟩;have hfq := H.out.fs _ (List.getElem_mem hi);have hlen : (d.S.set i xF).length = d.S.length := List.length_set
     have hxk : w1.ownsRow B 9 1 xF.kv xF.K.length (xF.K.flatMap encS) := by
      rw [HF.out];show w1.ownsRow B 9 1 (.slice (some ⟨W.heap.size,0,none⟩) y y) (List.replicate y (⟨#[47,98]⟩ : ByteArray)).length _;rw [hb5,List.length_replicate];exact hfin
     have hxf : SvcFit xF := by
      rw [HF.out];exact ⟨hfq.1,hfq.2.1,hfq.2.2.1,hfq.2.2.2.1,hfq.2.2.2.2.1,hfq.2.2.2.2.2.1,fun p hp => by rw [List.eq_of_mem_replicate hp]; unfold SzB; decide⟩
     have hnew := H.out.rowS hkw (OfT.one hgc) (fun u hu => by rw [hu]; exact hge) d.sv (d.S.set i xF) (by rw [hlen,HV.out.1]; exact HS3.out) (fun s hs => (List.mem_or_eq_of_mem_set hs).elim .inl (fun e => .inr (by rw [e]; exact hxk))) (fun s hs => (List.mem_or_eq_of_mem_set hs).elim (H.out.fs s) (fun e => by rw [e]; exact hxf)) (by rw [hlen]; exact H.out.pos.1) 0 0 (H.out.cnt.same hlen rfl rfl rfl);have HNEW := hide hnew;clear hnew hfin hkw hfq hxk hxf hk ho;go_wp2
     go_meet
     case rel =>
      refine ⟨_,0,0, ?_, ?_, ?_,rfl,HNEW.out⟩
      ·exact HV.out.1.symm
      ·exact HV.out.2.1.symm
      ·exact HV.out.2.2.symm
 case rest =>
  obtain ⟨d',m',q',rfl,rfl,h11,rfl,hst⟩ := hcut
  (try simp only [Exit.inBlock,Exit.then])
  apply_assumption
  exact of_frame288 _ rfl (bent_end B w0 _ b3 b6 c d' m' _ rfl rfl rfl rfl h11 hst)
theorem bent_arm28 (B : Nat) (w0 W : World) (b3 b6 : Nat) (c d : ConfD) (n : Int) (i j q : Nat) (x : Nat -> Value) (e2 : x 2 = .int .i64 n) (e3 : x 3 = .pointer (some ⟨b3,0,none⟩)) (e6 : x 6 = .pointer (some ⟨b6,0,none⟩)) (e7 : x 7 = .int .i64 28) (e9 : x 9 = d.sv) (e10 : x 10 = d.ev) (e11 : x 11 = d.rv) (e12 : x 12 = .int .i64 i) (e13 : x 13 = .int .i64 j) (e14 : x 14 = .int .i64 q) (hi : i < d.S.length) (hj : j < d.E.length) (hq : q < d.R.length) (hn : I64 n) (h : BnSt B w0 W b3 b6 c d 0 0) (hc : c.E.length = d.E.length /\ c.T.length = d.T.length /\ c.S.length = d.S.length) :
  Code.wp Tryz.prog (bentTail 9) (bodyPost Tryz.prog Tryz.f6 (BentP B c w0)) ⟨frameOf 288 x,[]⟩ W := by
 conv => arg 2; whnf
 rw [frame288];obtain ⟨gs,sc,hs,hsm⟩ := owns_form h.s h.pos.1;obtain ⟨ge,ec,he,hem⟩ := owns_form h.e h.pos.2.1;obtain ⟨gr,rc,hr,hrm⟩ := owns_form h.r h.pos.2.2;simp only [e2,e3,e6,e7,e9,e10,e11,e12,e13,e14,hs,he,hr];clear e2 e3 e6 e7 e9 e10 e11 e12 e13 e14;have hiz0 : (0 : Int) <= i := by omega
 have hiz : (i : Int) < d.S.length := by omega
 have hjz0 : (0 : Int) <= j := by omega
 have hjz : (j : Int) < d.E.length := by omega
 have hqz0 : (0 : Int) <= q := by omega
 have hqz : (q : Int) < d.R.length := by omega
 have HN := hide hn;have HC := hide hc;clear hn hc;obtain ⟨iv,zv,hiv0,hiv1,hiv2,hiv3,hiv4⟩ := info_partsN Tryz.infoV;have har := around_bd n 12 (by decide);obtain ⟨a,ha⟩ : ∃ a : Nat,around n 12 = (a : Int) := ⟨(around n 12).toNat,by omega⟩;have hcall := fun X => around_any n 12 X HN.out (by omega);rw [ha] at har;simp only [ha] at hcall;have ha5 : a <= 11 := by omega
 have HAR := hide hcall;have H := hide h;have HV := hide (show d.sv = _ /\ d.ev = _ /\ d.rv = _ from ⟨hs,he,hr⟩);clear har hcall ha h hs he hr
 go_upto_block 0 with fail
 go_cut [9,10,15,16,17,18] from 49 to 280 (fun v9 v10 _ _ _ _ w' => ∃ d' m' q',v9 = d'.sv /\ v10 = d'.ev /\ .slice (some ⟨gr,0,none⟩) d.R.length rc = d'.rv /\ q' = m' * m' /\ BnSt B w0 w' b3 b6 c d' m' q')
 case first =>
   go_wp2_with fail
   refine (HAR.out _).mono ?_;rintro e w' ⟨rfl,rfl⟩
   go_wp2_with fail
   go_loopw [9,16] (fun v9 v16 wr => ∃ y : Nat,y <= a /\ v16 = .int .i64 y /\ ∃ (sv' : Value) (S' : List SvcD),v9 = sv' /\ S'.length = d.S.length + (a - y) /\ Hid (BnSt B w0 wr b3 b6 c { d with sv := sv',S := S' } 0 0)) (fun _ y _ => (intOf y).toNat)
   case atStart => exact ⟨a,Nat.le_refl _,rfl,d.sv,d.S,HV.out.1.symm,by omega,H.out⟩
   case round =>
    obtain ⟨y,hya,rfl,sv',S',h9,hl,hst⟩ := hrel;generalize wr = w1 at *;have HST := hide hst.out;have HLN := hide hl;clear hst;obtain ⟨sa,sc',hsv'⟩ := owns_shape HST.out.s;have hsv' : sv' = .slice sa S'.length sc' := hsv';subst hsv';subst h9;by_cases hy : 0 < y
    ·have hyz : (y : Int) > 0 := (by omega);have hw4 : IntKind.i64.wrap (4 + (y : Int)) = 4 + (y : Int) := (by rw [IntKind.wrap_i64]; omega);have hw1 : IntKind.i64.wrap ((y : Int) - 1) = ((y - 1 : Nat) : Int) := (by rw [IntKind.wrap_i64]; omega);have HW1 := hide hw1;have hcl := HC.out.2.2;have hcn := H.out.cnt;have hbl := H.out.len;have hbl : S'.length <= 600 := (by unfold BnLen at hbl; omega);have hwz := HST.out.keep.size;obtain ⟨x,hx⟩ : ∃ x : SvcD,x = ⟨4 + (y : Int),.slice none 0 0,[],1,1,1,1,0⟩ := ⟨_,rfl⟩;have hxe : encV x = [.int .i64 (4 + (y : Int)),.slice none 0 0,.int .i64 1,.int .i64 1,.int .i64 1,.int .i64 1,.int .i64 0] := (by rw [hx]; rfl);have hal : Ext w1 (w1.alloc (.cells #[.int .i64 (4 + (y : Int)),.slice none 0 0,.int .i64 1,.int .i64 1,.int .i64 1,.int .i64 1,.int .i64 0] 51)) := za;have hsn := sl_new1 encV_len w1 x 51 _ hxe;have HX := hide hx;clear hx hw1 hl
     go_upto_region 82 with (fail)
     refine wp_region_lit ?_
     iterate 5 (refine wpList_plain rfl fun K hK => ?_; go_simp; refine hK _ _ ?_)
     have h1 := HST.out.ext hal;refine wpList_append_sl (enc := encV) rfl _ _ _ rfl w0.heap.size 51 iv zv 7 72 Tryz.underlying23 hiv0 hiv1 hiv2 hiv3 hiv4 (by decide) encV_len (.slice sa S'.length sc') S'.length (S'.flatMap encV) rfl h1.s (.slice (some ⟨w1.heap.size,0,none⟩) 1 1) rfl [x] hsn (fun s hs => by rw [List.mem_singleton.1 hs]; exact encV_one ⟨_,_,_,by rw [HX.out]⟩) (by unfold maxLen; simp; omega) (by simp; omega) (Nat.le_trans hwz hal.size) ?_;intro v8 w8 hown8 hg8;have hown8 : w8.ownsRow w0.heap.size 51 7 v8 (S'.length + 1) (S'.flatMap encV ++ [x].flatMap encV) := hown8;have hks : Keeps (fun q => (Value.slice sa S'.length sc').ownBlock = some q) (w1.alloc (.cells #[.int .i64 (4 + (y : Int)),.slice none 0 0,.int .i64 1,.int .i64 1,.int .i64 1,.int .i64 1,.int .i64 0] 51)) w8 := Keeps.of_grown hg8 (fun q h => h);have hnew := h1.rowS hks (OfT.own h1.s) (fun q hq => (h1.s.lt q hq).1) v8 (S' ++ [x]) (by rw [List.length_append,List.flatMap_append]; exact hown8) (fun s hs => (List.mem_append.1 hs).elim .inl (fun e => .inr (by rw [List.mem_singleton.1 e,HX.out]; exact World.ownsRow_nil _ _ _ _))) (fun s hs => (List.mem_append.1 hs).elim (h1.fs s) (fun e => by rw [List.mem_singleton.1 e,HX.out]; unfold SvcFit; refine ⟨?_, ?_, ?_, ?_, ?_, ?_,fun p hp => by cases hp⟩ <;> constructor <;> simp only <;> omega)) (by simp) 0 0 ⟨(show (S' ++ [x]).length <= c.S.length + 11 by rw [List.length_append,List.length_singleton]; have hl := HLN.out; omega),hcn.2.1,hcn.2.2.1,hcn.2.2.2.1,by omega,.inl rfl⟩
     have HNEW := hide hnew;clear hnew hks hown8 hg8 h1 hsn hxe hal hcn hwz;refine wpList_plain rfl fun K hK => ?_;go_simp;refine hK _ _ ?_;refine wpList_nil ?_;have hw1 := HW1.out
     (try simp only [Exit.inBlock,Exit.then])
     go_wp2
     go_roundw
     case rel => exact ⟨y - 1,by omega,by go_num,v8,S' ++ [x],rfl,by rw [List.length_append,List.length_singleton,HLN.out]; omega,HNEW.out⟩
     case measure => (simp [intOf]) <;> omega
    ·obtain rfl : y = 0 := (by omega);clear hya hy hl;go_wp2
     go_meet
     case rel => exact ⟨{ d with sv := .slice sa S'.length sc',S := S' },0,0,rfl,HV.out.2.1.symm,HV.out.2.2.symm,rfl,HST.out⟩
 case rest =>
  obtain ⟨d',m',q',rfl,rfl,h11,rfl,hst⟩ := hcut
  (try simp only [Exit.inBlock,Exit.then])
  apply_assumption
  exact of_frame288 _ rfl (bent_end B w0 _ b3 b6 c d' m' _ rfl rfl rfl rfl h11 hst)
theorem bent_arm29 (B : Nat) (w0 W : World) (b3 b6 : Nat) (c d : ConfD) (n : Int) (i j q : Nat) (x : Nat -> Value) (e2 : x 2 = .int .i64 n) (e3 : x 3 = .pointer (some ⟨b3,0,none⟩)) (e6 : x 6 = .pointer (some ⟨b6,0,none⟩)) (e7 : x 7 = .int .i64 29) (e9 : x 9 = d.sv) (e10 : x 10 = d.ev) (e11 : x 11 = d.rv) (e12 : x 12 = .int .i64 i) (e13 : x 13 = .int .i64 j) (e14 : x 14 = .int .i64 q) (hi : i < d.S.length) (hj : j < d.E.length) (hq : q < d.R.length) (hn : I64 n) (h : BnSt B w0 W b3 b6 c d 0 0) (hc : c.E.length = d.E.length /\ c.T.length = d.T.length /\ c.S.length = d.S.length) :
  Code.wp Tryz.prog (bentTail 9) (bodyPost Tryz.prog Tryz.f6 (BentP B c w0)) ⟨frameOf 288 x,[]⟩ W := by
 conv => arg 2; whnf
 rw [frame288];obtain ⟨gs,sc,hs,hsm⟩ := owns_form h.s h.pos.1;obtain ⟨ge,ec,he,hem⟩ := owns_form h.e h.pos.2.1;obtain ⟨gr,rc,hr,hrm⟩ := owns_form h.r h.pos.2.2;simp only [e2,e3,e6,e7,e9,e10,e11,e12,e13,e14,hs,he,hr];clear e2 e3 e6 e7 e9 e10 e11 e12 e13 e14;have hiz0 : (0 : Int) <= i := by omega
 have hiz : (i : Int) < d.S.length := by omega
 have hjz0 : (0 : Int) <= j := by omega
 have hjz : (j : Int) < d.E.length := by omega
 have hqz0 : (0 : Int) <= q := by omega
 have hqz : (q : Int) < d.R.length := by omega
 have HN := hide hn;have HC := hide hc;clear hn hc;obtain ⟨it0,hit,hitz,hit1,hit2⟩ := info_z' bnInfoT;obtain ⟨ie,ze,hie0,hie1,hie2,hie3,hie4⟩ := info_partsN Tryz.infoE;have har := around_bd n 7 (by decide);obtain ⟨a,ha⟩ : ∃ a : Nat,around n 7 = (a : Int) := ⟨(around n 7).toNat,by omega⟩;have hcall := fun X => around_any n 7 X HN.out (by omega);rw [ha] at har;simp only [ha] at hcall;have ha5 : a <= 6 := by omega
 obtain ⟨aa,haa⟩ : ∃ aa : Nat,a * a = aa := ⟨_,rfl⟩;have haa36 : aa <= 36 := by rw [<- haa]; exact Nat.mul_le_mul ha5 ha5
 have hwm : IntKind.i64.wrap ((a : Int) * (a : Int)) = (aa : Int) := by
  rw [show (a : Int) * (a : Int) = (aa : Int) by rw [<- haa]; exact (Int.natCast_mul a a).symm,IntKind.wrap_i64];omega
 have HWM := hide hwm;have HAA := hide haa;have HAR := hide hcall;have H := hide h;have HV := hide (show d.sv = _ /\ d.ev = _ /\ d.rv = _ from ⟨hs,he,hr⟩);clear har hcall ha h hs he hr hwm haa
 go_upto_block 0 with fail
 go_cut [9,10,15,16,17,18] from 49 to 280 (fun v9 v10 _ _ _ _ w' => ∃ d' m' q',v9 = d'.sv /\ v10 = d'.ev /\ .slice (some ⟨gr,0,none⟩) d.R.length rc = d'.rv /\ q' = m' * m' /\ BnSt B w0 w' b3 b6 c d' m' q')
 case first =>
   go_wp2_with fail
   refine (HAR.out _).mono ?_;rintro e w' ⟨rfl,rfl⟩
   go_wp2_with fail
   go_loopw [17] (fun v17 wr => ∃ y : Nat,y <= a /\ v17 = .int .i64 y /\ ∃ (tv' : Value) (T' : List RateD),T'.length = d.T.length + (a - y) /\ Hid (BnSt B w0 wr b3 b6 c { d with tv := tv',T := T' } 0 0)) (fun y _ => (intOf y).toNat)
   case atStart => exact ⟨a,Nat.le_refl _,rfl,d.tv,d.T,by omega,H.out⟩
   case round =>
    obtain ⟨y,hya,rfl,tv',T',hl,hst⟩ := hrel;generalize wr = w1 at *;have HST := hide hst.out;have HLN := hide hl;clear hst;have hcl := HC.out.2.1;have hcn := H.out.cnt;have hbl := H.out.len;have hbl : T'.length <= 600 := (by unfold BnLen at hbl; omega);have hwz := HST.out.keep.size;have hBz := HST.out.hB;by_cases hy : 0 < y
    ·obtain ⟨ta,tc,htv'⟩ := owns_shape HST.out.t;have htv' : tv' = .slice ta T'.length tc := htv';subst htv';have hyz : (y : Int) > 0 := (by omega);have hw1 : IntKind.i64.wrap ((y : Int) - 1) = ((y - 1 : Nat) : Int) := (by rw [IntKind.wrap_i64]; omega);obtain ⟨v1,v2,v3,hb⟩ := HST.out.box;have d1 := hb.cell 3 _ rfl;have hal : Ext w1 (w1.alloc (.cells #[.int .i64 1,.int .i64 1,.int .i64 1] 55)) := za;have h1b := hb.ext hal;have h1t := HST.out.t.alloc (.cells #[.int .i64 1,.int .i64 1,.int .i64 1] 55);have d1 : w1.cell? ⟨b3,3,none⟩ = some (.slice ta T'.length tc) := d1;have HAL := hide hal;clear hal hb hl hcl
     go_wp2_with (at_builtin; refine wpList_append_place2 (by rfl) _ _ 26 (by rfl) B 55 it0 (.agg #[.int .i64 0,.int .i64 0,.int .i64 0]) 3 24 Tryz.underlying26 hit hitz hit1 hit2 rfl (by decide) _ T'.length _ (by rfl) (HST.out.t.alloc _) ⟨w1.heap.size,0,none⟩ 1 1 [.int .i64 1,.int .i64 1,.int .i64 1] (by rfl) (by rfl) (cells_new w1 [.int .i64 1,.int .i64 1,.int .i64 1] 55) (by simp [Value.oneCell']) (by decide) (by unfold maxLen; omega) (by omega) (by simp; omega) ?_; intro v8 w8 hown8 hg8 hplace; obtain ⟨a8,c8,rfl⟩ := owns_shape hown8; have hbq := BoxC.grownT h1b h1t hg8; have d8 := hbq.cell 3 _ rfl; have z8 := hbq.frozen 3)
     have hnew := (HST.out.ext HAL.out).appT hg8 (.slice a8 (T'.length + 1) c8) ⟨1,1,1⟩ hown8 (by
      rcases hplace with hp | hp
      ·exact .inl hp
      ·refine .inr ⟨fun g hg => ?_,hp.2⟩;rw [hp.1] at hg;have e : (w1.alloc (.cells #[.int .i64 1,.int .i64 1,.int .i64 1] 55)).heap.size = w1.heap.size + 1 := (by simp);rw [e] at hg;cases hg
       omega) (m' := 0) (q' := 0) ⟨hcn.1,hcn.2.1,(show (T' ++ [_]).length <= c.T.length + 6 by rw [List.length_append,List.length_singleton]; have hl := HLN.out; have hcl := HC.out.2.1; omega),hcn.2.2.2.1,by omega,.inl rfl⟩
     go_roundw
     case rel => exact ⟨y - 1,by omega,by go_num,.slice a8 (T'.length + 1) c8,T' ++ [(⟨1,1,1⟩ : RateD)],by rw [List.length_append,List.length_singleton,HLN.out]; omega,hnew⟩
     case measure => (simp [intOf]) <;> omega
    ·obtain rfl : y = 0 := (by omega);have hst2 := HST.out.recnt (m' := a) (q' := 0) ⟨hcn.1,hcn.2.1,(show T'.length <= c.T.length + 6 by omega),hcn.2.2.2.1,ha5,.inr (show T'.length = c.T.length + a by omega)⟩;have HS2 := hide hst2;obtain ⟨d2,hd2⟩ : ∃ d2 : ConfD,d2 = { d with tv := tv',T := T' } := ⟨_,rfl⟩;rw [<- hd2] at HS2;have HD2 := hide hd2;have hE2 : d2.E.length = c.E.length := (by rw [hd2]; exact HC.out.1.symm);have hV2 : d2.sv = .slice (some ⟨gs,0,none⟩) d.S.length sc /\ d2.ev = .slice (some ⟨ge,0,none⟩) d.E.length ec /\ d2.rv = .slice (some ⟨gr,0,none⟩) d.R.length rc := (by rw [hd2]; exact HV.out);have HV2 := hide hV2;have HE2 := hide hE2;clear hst2 hy HST hl hd2 hV2 hE2 hcn hya hbl hcl
     go_wp2_with fail
     refine (HAR.out _).mono ?_;rintro e w' ⟨rfl,rfl⟩
     go_wp2_with fail
     refine (HAR.out _).mono ?_;rintro e w' ⟨rfl,rfl⟩;have hwm := HWM.out
     go_wp2_with fail
     clear hwm
     go_loopw [10,18] (fun v10 v18 wr => ∃ y : Nat,y <= aa /\ v18 = .int .i64 y /\ ∃ (ev' : Value) (E' : List EndD),v10 = ev' /\ E'.length = d2.E.length + (aa - y) /\ Hid (BnSt B w0 wr b3 b6 c { d2 with ev := ev',E := E' } a (aa - y))) (fun _ y _ => (intOf y).toNat)
     case atStart => exact ⟨aa,Nat.le_refl _,rfl,d2.ev,d2.E,HV2.out.2.1.symm,by omega,by rw [Nat.sub_self]; exact HS2.out⟩
     case round =>
      obtain ⟨y,hya,rfl,ev',E',h9,hl,hst⟩ := hrel;generalize wr = w3 at *;have HST := hide hst.out;have HLN := hide hl;clear hst;obtain ⟨sa,sc',hev'⟩ := owns_shape HST.out.e;have hev' : ev' = .slice sa E'.length sc' := hev';subst hev';subst h9;by_cases hy : 0 < y
      ·have hyz : (y : Int) > 0 := (by omega);have hw4 : IntKind.i64.wrap (4 + (y : Int)) = 4 + (y : Int) := (by rw [IntKind.wrap_i64]; omega);have hw1 : IntKind.i64.wrap ((y : Int) - 1) = ((y - 1 : Nat) : Int) := (by rw [IntKind.wrap_i64]; omega);have HW1 := hide hw1;have hcl := HE2.out;have hcn := HST.out.cnt;have hbl := H.out.len;have hbl : E'.length <= 600 := (by unfold BnLen at hbl; omega);have hwz3 := HST.out.keep.size;have hal : Ext w3 (w3.alloc (.cells #[.int .i64 (4 + (y : Int)),.int .i64 1,.int .i64 1] 53)) := za;have hsn := sl_new1 encE_len w3 ⟨4 + (y : Int),1,1⟩ 53 _ rfl;clear hw1 hl hcl
       go_upto_region 17 with (fail)
       refine wp_region_lit ?_
       iterate 5 (refine wpList_plain rfl fun K hK => ?_; go_simp; refine hK _ _ ?_)
       have h1 := HST.out.ext hal;refine wpList_append_sl (enc := encE) rfl _ _ _ rfl w0.heap.size 53 ie ze 3 24 Tryz.underlying24 hie0 hie1 hie2 hie3 hie4 (by decide) encE_len (.slice sa E'.length sc') E'.length (E'.flatMap encE) rfl h1.e (.slice (some ⟨w3.heap.size,0,none⟩) 1 1) rfl [⟨4 + (y : Int),1,1⟩] hsn (fun s _ => encE_one s) (by unfold maxLen; simp; omega) (by simp; omega) (Nat.le_trans hwz3 hal.size) ?_;intro v8 w8 hown8 hg8;have hown8 : w8.ownsRow w0.heap.size 53 3 v8 (E'.length + 1) (E'.flatMap encE ++ [(⟨4 + (y : Int),1,1⟩ : EndD)].flatMap encE) := hown8;have hks : Keeps (fun q => (Value.slice sa E'.length sc').ownBlock = some q) (w3.alloc (.cells #[.int .i64 (4 + (y : Int)),.int .i64 1,.int .i64 1] 53)) w8 := Keeps.of_grown hg8 (fun q h => h);have hnew := h1.rowE hks (OfT.own h1.e) (fun q hq => (h1.e.lt q hq).1) v8 (E' ++ [⟨4 + (y : Int),1,1⟩]) (by rw [List.length_append,List.flatMap_append]; exact hown8) (fun s hs => (List.mem_append.1 hs).elim (h1.fe s) (fun e => by rw [List.mem_singleton.1 e]; unfold EndFit; refine ⟨?_, ?_, ?_⟩ <;> constructor <;> simp only <;> omega)) (by simp) a (aa - (y - 1)) ⟨hcn.1,⟨(show (E' ++ [_]).length = c.E.length + (aa - (y - 1)) by rw [List.length_append,List.length_singleton]; have hl := HLN.out; have hcl := HE2.out; omega),by omega⟩,hcn.2.2.1,hcn.2.2.2.1,hcn.2.2.2.2.1,hcn.2.2.2.2.2⟩
       have HNEW := hide hnew;clear hnew hks hown8 hg8 h1 hsn hal hcn hwz3;refine wpList_plain rfl fun K hK => ?_;go_simp;refine hK _ _ ?_;refine wpList_nil ?_;have hw1 := HW1.out
       (try simp only [Exit.inBlock,Exit.then])
       go_wp2
       go_roundw
       case rel => exact ⟨y - 1,by omega,by go_num,v8,E' ++ [(⟨4 + (y : Int),1,1⟩ : EndD)],rfl,by rw [List.length_append,List.length_singleton,HLN.out]; omega,HNEW.out⟩
       case measure => (simp [intOf]) <;> omega
      ·obtain rfl : y = 0 := (by omega);clear hya hy hl;go_wp2
       go_meet
       case rel => exact ⟨{ d2 with ev := .slice sa E'.length sc',E := E' },a,aa - 0,HV2.out.1.symm,rfl,HV2.out.2.2.symm,HAA.out.symm,HST.out⟩
 case rest =>
  obtain ⟨d',m',q',rfl,rfl,h11,rfl,hst⟩ := hcut
  (try simp only [Exit.inBlock,Exit.then])
  apply_assumption
  exact of_frame288 _ rfl (bent_end B w0 _ b3 b6 c d' m' _ rfl rfl rfl rfl h11 hst)
theorem bent16_any (c : ConfD) (how n : Int) (B : Nat) (w : World) (ho : ConfOwn B w c) (hB : B <= w.heap.size) (hf : ConfFit c) (hl : BnLen c) (hhow : I64 how) (hn : I64 n) :
  Calls Tryz.prog 6 #[c.val,.int .i64 how,.int .i64 n] w (BentP B c w) := by
 obtain ⟨iv,zv,hiv0,hiv1,hiv2,hiv3,hiv4⟩ := info_partsN Tryz.infoV;obtain ⟨ie,ze,hie0,hie1,hie2,hie3,hie4⟩ := info_partsN Tryz.infoE;obtain ⟨ir,zr,hir0,hir1,hir2,hir3,hir4⟩ := info_partsN Tryz.infoR;have hx3 : Ext w (w.alloc (.cells #[c.sv,c.ev,c.rv,c.tv,.int .i64 c.w0,.int .i64 c.w1,.int .i64 c.w2,.int .i64 c.w3,.int .i64 c.w4,.int .i64 c.w5,.int .i64 c.w6,.int .i64 c.panic,.int .i64 c.low,.int .i64 c.high,.int .i64 c.wait,.int .i64 c.hop,.int .i64 c.life,.int .i64 c.purse,.int .i64 c.horizon,.int .i64 c.sample] 30)) := za;have hb3 := heap_alloc_new w (.cells #[c.sv,c.ev,c.rv,c.tv,.int .i64 c.w0,.int .i64 c.w1,.int .i64 c.w2,.int .i64 c.w3,.int .i64 c.w4,.int .i64 c.w5,.int .i64 c.w6,.int .i64 c.panic,.int .i64 c.low,.int .i64 c.high,.int .i64 c.wait,.int .i64 c.hop,.int .i64 c.life,.int .i64 c.purse,.int .i64 c.horizon,.int .i64 c.sample] 30);have hx6 : Ext (w.alloc (.cells #[c.sv,c.ev,c.rv,c.tv,.int .i64 c.w0,.int .i64 c.w1,.int .i64 c.w2,.int .i64 c.w3,.int .i64 c.w4,.int .i64 c.w5,.int .i64 c.w6,.int .i64 c.panic,.int .i64 c.low,.int .i64 c.high,.int .i64 c.wait,.int .i64 c.hop,.int .i64 c.life,.int .i64 c.purse,.int .i64 c.horizon,.int .i64 c.sample] 30)) ((w.alloc (.cells #[c.sv,c.ev,c.rv,c.tv,.int .i64 c.w0,.int .i64 c.w1,.int .i64 c.w2,.int .i64 c.w3,.int .i64 c.w4,.int .i64 c.w5,.int .i64 c.w6,.int .i64 c.panic,.int .i64 c.low,.int .i64 c.high,.int .i64 c.wait,.int .i64 c.hop,.int .i64 c.life,.int .i64 c.purse,.int .i64 c.horizon,.int .i64 c.sample] 30)).alloc (.cells #[.slice none 0 0,.slice none 0 0,.slice none 0 0,.slice none 0 0,.int .i64 0,.int .i64 0,.int .i64 0,.int .i64 0,.int .i64 0,.int .i64 0,.int .i64 0,.int .i64 0,.int .i64 0,.int .i64 0,.int .i64 0,.int .i64 0,.int .i64 0,.int .i64 0,.int .i64 0,.int .i64 0] 30)) := za
 have hb6 := heap_alloc_new (w.alloc (.cells #[c.sv,c.ev,c.rv,c.tv,.int .i64 c.w0,.int .i64 c.w1,.int .i64 c.w2,.int .i64 c.w3,.int .i64 c.w4,.int .i64 c.w5,.int .i64 c.w6,.int .i64 c.panic,.int .i64 c.low,.int .i64 c.high,.int .i64 c.wait,.int .i64 c.hop,.int .i64 c.life,.int .i64 c.purse,.int .i64 c.horizon,.int .i64 c.sample] 30)) (.cells #[.slice none 0 0,.slice none 0 0,.slice none 0 0,.slice none 0 0,.int .i64 0,.int .i64 0,.int .i64 0,.int .i64 0,.int .i64 0,.int .i64 0,.int .i64 0,.int .i64 0,.int .i64 0,.int .i64 0,.int .i64 0,.int .i64 0,.int .i64 0,.int .i64 0,.int .i64 0,.int .i64 0] 30);have hb36 := (hx6.block _ (zg hb3)).trans hb3;have hsz : (w.alloc (.cells #[c.sv,c.ev,c.rv,c.tv,.int .i64 c.w0,.int .i64 c.w1,.int .i64 c.w2,.int .i64 c.w3,.int .i64 c.w4,.int .i64 c.w5,.int .i64 c.w6,.int .i64 c.panic,.int .i64 c.low,.int .i64 c.high,.int .i64 c.wait,.int .i64 c.hop,.int .i64 c.life,.int .i64 c.purse,.int .i64 c.horizon,.int .i64 c.sample] 30)).heap.size = w.heap.size + 1 := by simp
 rw [hsz] at hb6;have hxx := hx3.trans hx6;obtain ⟨l1,l2,l3,l4,l5,l6,l7⟩ := hl;have HL := hide (show BnLen c from ⟨l1,l2,l3,l4,l5,l6,l7⟩);obtain ⟨Sa,Sc,hS⟩ := owns_shape ho.s;obtain ⟨Ea,Ec,hE⟩ := owns_shape ho.e;obtain ⟨Ra,Rc,hR⟩ := owns_shape ho.r;have HO := hide ho;have HF := hide hf;have HB := hide hB;have HN := hide hn;have har := around_any how 30 ((w.alloc (.cells #[c.sv,c.ev,c.rv,c.tv,.int .i64 c.w0,.int .i64 c.w1,.int .i64 c.w2,.int .i64 c.w3,.int .i64 c.w4,.int .i64 c.w5,.int .i64 c.w6,.int .i64 c.panic,.int .i64 c.low,.int .i64 c.high,.int .i64 c.wait,.int .i64 c.hop,.int .i64 c.life,.int .i64 c.purse,.int .i64 c.horizon,.int .i64 c.sample] 30)).alloc (.cells #[.slice none 0 0,.slice none 0 0,.slice none 0 0,.slice none 0 0,.int .i64 0,.int .i64 0,.int .i64 0,.int .i64 0,.int .i64 0,.int .i64 0,.int .i64 0,.int .i64 0,.int .i64 0,.int .i64 0,.int .i64 0,.int .i64 0,.int .i64 0,.int .i64 0,.int .i64 0,.int .i64 0] 30)) hhow (by omega);have hk30 := around_bd how 30 (by decide);obtain ⟨k,hk⟩ : ∃ k : Nat,around how 30 = (k : Int) := ⟨(around how 30).toNat,by omega⟩;rw [hk] at har hk30;have hk3 : k < 30 := by omega
 obtain ⟨hd,hhd⟩ : ∃ hd : Int,how.tdiv 30 = hd := ⟨_,rfl⟩
 have hhb : -9223372036854775808 <= hd /\ hd <= 9223372036854775807 := by
  obtain ⟨h1,h2⟩ := hhow;rw [<- hhd];rcases Int.le_total 0 how with h | h
  ·rw [Int.tdiv_eq_ediv_of_nonneg h]; omega
  ·have e : how = -(-how) := (by omega);rw [e,Int.neg_tdiv,Int.tdiv_eq_ediv_of_nonneg (by omega)]; omega
 have hwd : IntKind.i64.wrap hd = hd := by rw [IntKind.wrap_i64]; omega
 have hat7 := around_bd hd 7 (by decide);obtain ⟨t,ht⟩ : ∃ t : Nat,around hd 7 = (t : Int) := ⟨(around hd 7).toNat,by omega⟩;have har7 := fun X => around_any hd 7 X ⟨hhb.1,hhb.2⟩ (by omega);rw [ht] at hat7;simp only [ht] at har7;have HAR := hide har;have HAR7 := hide har7;have HWD := hide hwd;have HHD := hide hhd;have ht6 : t <= 6 := by omega
 clear hhow hn hb3 hx3 hx6 hsz ho hf hB har har7 hwd hhd hk hk30 hat7 hhb ht;show Calls Tryz.prog 6 #[.agg #[c.sv,c.ev,c.rv,c.tv,.int .i64 c.w0,.int .i64 c.w1,.int .i64 c.w2,.int .i64 c.w3,.int .i64 c.w4,.int .i64 c.w5,.int .i64 c.w6,.int .i64 c.panic,.int .i64 c.low,.int .i64 c.high,.int .i64 c.wait,.int .i64 c.hop,.int .i64 c.life,.int .i64 c.purse,.int .i64 c.horizon,.int .i64 c.sample],.int .i64 how,.int .i64 n] w _;rw [hS,hE,hR] at hb36 hb6 hxx HAR ⊢;have HS := hide hS;have HE := hide hE;have HR := hide hR;clear hS hE hR
 go_enter Tryz.func6,Tryz.ntmps6
 go_upto_region 1 with (fail)
 generalize ((w.alloc (.cells #[.slice Sa c.S.length Sc,.slice Ea c.E.length Ec,.slice Ra c.R.length Rc,c.tv,.int .i64 c.w0,.int .i64 c.w1,.int .i64 c.w2,.int .i64 c.w3,.int .i64 c.w4,.int .i64 c.w5,.int .i64 c.w6,.int .i64 c.panic,.int .i64 c.low,.int .i64 c.high,.int .i64 c.wait,.int .i64 c.hop,.int .i64 c.life,.int .i64 c.purse,.int .i64 c.horizon,.int .i64 c.sample] 30)).alloc (.cells #[.slice none 0 0,.slice none 0 0,.slice none 0 0,.slice none 0 0,.int .i64 0,.int .i64 0,.int .i64 0,.int .i64 0,.int .i64 0,.int .i64 0,.int .i64 0,.int .i64 0,.int .i64 0,.int .i64 0,.int .i64 0,.int .i64 0,.int .i64 0,.int .i64 0,.int .i64 0,.int .i64 0] 30)) = W2 at hb36 hb6 hxx HAR ⊢;obtain ⟨b3,hb3e⟩ : ∃ b,w.heap.size = b := ⟨_,rfl⟩;rw [hb3e] at hb36 hb6 ⊢;obtain ⟨b6,hb6e⟩ : ∃ b,b3 + 1 = b := ⟨_,rfl⟩;rw [hb6e] at hb6 ⊢;have HXW2 := hide hxx;have HBW2 := hide (show BoxC W2 b3 c from by unfold BoxC encC; rw [HS.out,HE.out,HR.out]; exact hb36);have H6W2 := hide hb6;have HBE := hide (show w.heap.size = b3 /\ b3 + 1 = b6 from ⟨hb3e,hb6e⟩);clear hxx hb36 hb6 hb6e
 go_wp2_with fail
 refine HAR.out.mono ?_;rintro e w' ⟨rfl,rfl⟩;have hhd := HHD.out;have hwd := HWD.out
 go_wp2_with fail
 refine (HAR7.out _).mono ?_;rintro e w' ⟨rfl,rfl⟩;clear hhd hwd HAR HAR7 HWD HHD;have d0 : W2.cell? ⟨b3,0,none⟩ = some (.slice Sa c.S.length Sc) := by rw [<- HS.out]; exact HBW2.out.cell 0 _ rfl
 go_upto_region 3 with (fail)
 refine wp_region_lit ?_
 iterate 2 (refine wpList_plain rfl fun K hK => ?_; go_simp; refine hK _ _ ?_)
 refine wpList_append_sl (enc := encV) rfl _ _ _ rfl w.heap.size 51 iv zv 7 72 Tryz.underlying23 hiv0 hiv1 hiv2 hiv3 hiv4 (by decide) encV_len (.slice none 0 0) 0 [] rfl (World.ownsRow_nil _ _ _ _) (.slice Sa c.S.length Sc) rfl c.S (by have := Sl.of_own' encV_len (owns_ext HO.out.s HXW2.out); rw [HS.out] at this; exact this) (fun s hs => encV_one (by obtain ⟨x,y,h⟩ := owns_shape (HO.out.k s hs); exact ⟨_,_,_,h⟩)) (by unfold maxLen; omega) (by omega) HXW2.out.size ?_;intro vS w3 hoS hgS;have hoS : w3.ownsRow w.heap.size 51 7 vS c.S.length (c.S.flatMap encV) := by simpa using hoS
 have hxS : Ext W2 w3 := Keeps.ext zb (Keeps.of_grown hgS (X := fun _ => False) (fun q h => by cases h)) (fun g hg => hg.elim);obtain ⟨pS,qS,rfl⟩ := owns_shape hoS;have HOS := hide hoS;have HXw3 := hide (HXW2.out.trans hxS);have HBw3 := hide (HBW2.out.ext hxS);have H6w3 := hide ((hxS.block _ (zg H6W2.out)).trans H6W2.out);have HES := hide hxS;clear hoS hgS hxS;refine wpList_plain rfl fun K hK => ?_;go_simp;refine hK _ _ ?_;refine wpList_nil ?_
 (try simp only [Exit.inBlock,Exit.then])
 have d0 : w3.cell? ⟨b3,1,none⟩ = some (.slice Ea c.E.length Ec) := by rw [<- HE.out]; exact HBw3.out.cell 1 _ rfl
 go_upto_region 4 with (fail)
 refine wp_region_lit ?_
 iterate 2 (refine wpList_plain rfl fun K hK => ?_; go_simp; refine hK _ _ ?_)
 refine wpList_append_sl (enc := encE) rfl _ _ _ rfl w.heap.size 53 ie ze 3 24 Tryz.underlying24 hie0 hie1 hie2 hie3 hie4 (by decide) encE_len (.slice none 0 0) 0 [] rfl (World.ownsRow_nil _ _ _ _) (.slice Ea c.E.length Ec) rfl c.E (by have := Sl.of_own' encE_len (owns_ext HO.out.e HXw3.out); rw [HE.out] at this; exact this) (fun s _ => encE_one s) (by unfold maxLen; omega) (by omega) HXw3.out.size ?_;intro vE w4 hoE hgE;have hoE : w4.ownsRow w.heap.size 53 3 vE c.E.length (c.E.flatMap encE) := by simpa using hoE
 have hxE : Ext w3 w4 := Keeps.ext zb (Keeps.of_grown hgE (X := fun _ => False) (fun q h => by cases h)) (fun g hg => hg.elim);obtain ⟨pE,qE,rfl⟩ := owns_shape hoE;have HOE := hide hoE;have HXw4 := hide (HXw3.out.trans hxE);have HBw4 := hide (HBw3.out.ext hxE);have H6w4 := hide ((hxE.block _ (zg H6w3.out)).trans H6w3.out);have HEE := hide hxE;clear hoE hgE hxE;refine wpList_plain rfl fun K hK => ?_;go_simp;refine hK _ _ ?_;refine wpList_nil ?_
 (try simp only [Exit.inBlock,Exit.then])
 have d0 : w4.cell? ⟨b3,2,none⟩ = some (.slice Ra c.R.length Rc) := by rw [<- HR.out]; exact HBw4.out.cell 2 _ rfl
 go_upto_region 5 with (fail)
 refine wp_region_lit ?_
 iterate 2 (refine wpList_plain rfl fun K hK => ?_; go_simp; refine hK _ _ ?_)
 refine wpList_append_sl (enc := encR) rfl _ _ _ rfl w.heap.size 69 ir zr 19 232 Tryz.underlying25 hir0 hir1 hir2 hir3 hir4 (by decide) encR_len (.slice none 0 0) 0 [] rfl (World.ownsRow_nil _ _ _ _) (.slice Ra c.R.length Rc) rfl c.R (by have := Sl.of_own' encR_len (owns_ext HO.out.r HXw4.out); rw [HR.out] at this; exact this) (fun s hs => encR_one s (HO.out.rr s hs)) (by unfold maxLen; omega) (by omega) HXw4.out.size ?_;intro vR w5 hoR hgR;have hoR : w5.ownsRow w.heap.size 69 19 vR c.R.length (c.R.flatMap encR) := by simpa using hoR
 have hxR : Ext w4 w5 := Keeps.ext zb (Keeps.of_grown hgR (X := fun _ => False) (fun q h => by cases h)) (fun g hg => hg.elim);obtain ⟨pR,qR,rfl⟩ := owns_shape hoR;have HOR := hide hoR;have HXw5 := hide (HXw4.out.trans hxR);have HBw5 := hide (HBw4.out.ext hxR);have H6w5 := hide ((hxR.block _ (zg H6w4.out)).trans H6w4.out);have HER := hide hxR;clear hoR hgR hxR;refine wpList_plain rfl fun K hK => ?_;go_simp;refine hK _ _ ?_;refine wpList_nil ?_
 (try simp only [Exit.inBlock,Exit.then])
 clear d0;have hbe := HBE.out;obtain ⟨d,hd⟩ : ∃ d : ConfD,d = { c with sv := .slice pS c.S.length qS,ev := .slice pE c.E.length qE,rv := .slice pR c.R.length qR } := ⟨_,rfl⟩
 have hst : BnSt B w w5 b3 b6 c d 0 0 := by
  rw [hd];have ho := HO.out.ext HXw5.out;exact ⟨⟨c.sv,c.ev,c.rv,HBw5.out⟩,owns_ext (owns_ext HOS.out HEE.out) HER.out,ho.k,owns_ext HOE.out HER.out,HOR.out,ho.rr,ho.t,fun g hg => .inl ⟨hg,.inr ⟨rfl,rfl⟩⟩,HF.out.1,HF.out.2.1,HF.out.2.2.1,HL.out,⟨Nat.le_add_right _ _,⟨rfl,by omega⟩,Nat.le_add_right _ _,rfl,by omega,.inl rfl⟩,⟨l5,l6,l7⟩,Keeps.of_ext HXw5.out,⟨_,H6w5.out,rfl⟩,by omega,by omega,by omega,HB.out⟩
 have hdv : .slice pS c.S.length qS = d.sv /\ .slice pE c.E.length qE = d.ev /\ .slice pR c.R.length qR = d.rv /\ c.S.length = d.S.length /\ c.E.length = d.E.length /\ c.R.length = d.R.length /\ c.T.length = d.T.length := by rw [hd]; exact ⟨rfl,rfl,rfl,rfl,rfl,rfl,rfl⟩
 have HST := hide hst;have HDV := hide hdv;have HCC := hide (show c.E.length = d.E.length /\ c.T.length = d.T.length /\ c.S.length = d.S.length from ⟨hdv.2.2.2.2.1,hdv.2.2.2.2.2.2,hdv.2.2.2.1⟩);obtain ⟨nS,hnS⟩ : ∃ x,c.S.length = x := ⟨_,rfl⟩;obtain ⟨nE,hnE⟩ : ∃ x,c.E.length = x := ⟨_,rfl⟩;obtain ⟨nR,hnR⟩ : ∃ x,c.R.length = x := ⟨_,rfl⟩;rw [hnS] at l1 l5;rw [hnE] at l2 l6;rw [hnR] at l4 l7;rw [hnS,hnE,hnR];rw [hnS,hnE,hnR] at HDV;have mS : max (nS : Int) 1 = nS := by omega
 have mE : max (nE : Int) 1 = nE := by omega
 have mR : max (nR : Int) 1 = nR := by omega
 have zS : (nS : Int) ≠ 0 := by omega
 have zE : (nE : Int) ≠ 0 := by omega
 have zR : (nR : Int) ≠ 0 := by omega
 have yS : ¬ nS = 0 := by omega
 have yE : ¬ nE = 0 := by omega
 have yR : ¬ nR = 0 := by omega
 have lS := Nat.mod_lt t l5;have lE := Nat.mod_lt t l6;have lR := Nat.mod_lt t l7;have tS : (t : Int).tmod (nS : Int) = ((t % nS : Nat) : Int) := by rw [Int.tmod_eq_emod_of_nonneg (by omega)]; rfl
 have tE : (t : Int).tmod (nE : Int) = ((t % nE : Nat) : Int) := by rw [Int.tmod_eq_emod_of_nonneg (by omega)]; rfl
 have tR : (t : Int).tmod (nR : Int) = ((t % nR : Nat) : Int) := by rw [Int.tmod_eq_emod_of_nonneg (by omega)]; rfl
 obtain ⟨i,hi⟩ : ∃ i,t % nS = i := ⟨_,rfl⟩;obtain ⟨j,hj⟩ : ∃ i,t % nE = i := ⟨_,rfl⟩;obtain ⟨q,hq⟩ : ∃ i,t % nR = i := ⟨_,rfl⟩;rw [hi] at lS tS;rw [hj] at lE tE;rw [hq] at lR tR;have wS : IntKind.i64.wrap (i : Int) = i := by rw [IntKind.wrap_i64]; omega
 have wE : IntKind.i64.wrap (j : Int) = j := by rw [IntKind.wrap_i64]; omega
 have wR : IntKind.i64.wrap (q : Int) = q := by rw [IntKind.wrap_i64]; omega
 have HH := hide (show i < nS /\ j < nE /\ q < nR from ⟨lS,lE,lR⟩);clear hst hdv hd hi hj hq hnS hnE hnR hbe lS lE lR HEE HER HES HOS HOE HOR HS HE HR
 go_upto_region 8 with (fail)
 go_cut [14] from 43 to 47 (fun v14 w' => v14 = .int .i64 (q : Int) /\ w' = w5)
 case first =>
  go_wp2
  go_meet
  case rel => exact ⟨rfl,rfl⟩
 case rest =>
  obtain ⟨rfl,rfl⟩ := hcut;obtain ⟨v1,v2,v3,n1,n2,n3,n4⟩ := HDV.out;obtain ⟨hh1,hh2,hh3⟩ := HH.out;rw [n1] at hh1;rw [n2] at hh2;rw [n3] at hh3
  (try simp only [Exit.inBlock,Exit.then])
  have h30 : k = 0 \/ k = 1 \/ k = 2 \/ k = 3 \/ k = 4 \/ k = 5 \/ k = 6 \/ k = 7 \/ k = 8 \/ k = 9 \/ k = 10 \/ k = 11 \/ k = 12 \/ k = 13 \/ k = 14 \/ k = 15 \/ k = 16 \/ k = 17 \/ k = 18 \/ k = 19 \/ k = 20 \/ k = 21 \/ k = 22 \/ k = 23 \/ k = 24 \/ k = 25 \/ k = 26 \/ k = 27 \/ k = 28 \/ k = 29 := by omega
  have hcc : c.E.length = d.E.length /\ c.T.length = d.T.length /\ c.S.length = d.S.length := HCC.out;rcases h30 with rfl | rfl | rfl | rfl | rfl | rfl | rfl | rfl | rfl | rfl | rfl | rfl | rfl | rfl | rfl | rfl | rfl | rfl | rfl | rfl | rfl | rfl | rfl | rfl | rfl | rfl | rfl | rfl | rfl | rfl
  ·apply_assumption
   exact of_frame288 _ rfl (bent_arm0 B w _ b3 b6 c d n i j q _ rfl rfl rfl rfl v1 v2 v3 rfl rfl rfl hh1 hh2 hh3 HN.out HST.out hcc)
  ·apply_assumption
   exact of_frame288 _ rfl (bent_arm1 B w _ b3 b6 c d n i j q _ rfl rfl rfl rfl v1 v2 v3 rfl rfl rfl hh1 hh2 hh3 HN.out HST.out hcc)
  ·apply_assumption
   exact of_frame288 _ rfl (bent_arm2 B w _ b3 b6 c d n i j q _ rfl rfl rfl rfl v1 v2 v3 rfl rfl rfl hh1 hh2 hh3 HN.out HST.out hcc)
  ·apply_assumption
   exact of_frame288 _ rfl (bent_arm3 B w _ b3 b6 c d n i j q _ rfl rfl rfl rfl v1 v2 v3 rfl rfl rfl hh1 hh2 hh3 HN.out HST.out hcc)
  ·apply_assumption
   exact of_frame288 _ rfl (bent_arm4 B w _ b3 b6 c d n i j q _ rfl rfl rfl rfl v1 v2 v3 rfl rfl rfl hh1 hh2 hh3 HN.out HST.out hcc)
  ·apply_assumption
   exact of_frame288 _ rfl (bent_arm5 B w _ b3 b6 c d n i j q _ rfl rfl rfl rfl v1 v2 v3 rfl rfl rfl hh1 hh2 hh3 HN.out HST.out hcc)
  ·apply_assumption
   exact of_frame288 _ rfl (bent_arm6 B w _ b3 b6 c d n i j q _ rfl rfl rfl rfl v1 v2 v3 rfl rfl rfl hh1 hh2 hh3 HN.out HST.out hcc)
  ·apply_assumption
   exact of_frame288 _ rfl (bent_arm7 B w _ b3 b6 c d n i j q _ rfl rfl rfl rfl v1 v2 v3 rfl rfl rfl hh1 hh2 hh3 HN.out HST.out hcc)
  ·apply_assumption
   exact of_frame288 _ rfl (bent_arm8 B w _ b3 b6 c d n i j q _ rfl rfl rfl rfl v1 v2 v3 rfl rfl rfl hh1 hh2 hh3 HN.out HST.out hcc)
  ·apply_assumption
   exact of_frame288 _ rfl (bent_arm9 B w _ b3 b6 c d n i j q _ rfl rfl rfl rfl v1 v2 v3 rfl rfl rfl hh1 hh2 hh3 HN.out HST.out hcc)
  ·apply_assumption
   exact of_frame288 _ rfl (bent_arm10 B w _ b3 b6 c d n i j q _ rfl rfl rfl rfl v1 v2 v3 rfl rfl rfl hh1 hh2 hh3 HN.out HST.out hcc)
  ·apply_assumption
   exact of_frame288 _ rfl (bent_arm11 B w _ b3 b6 c d n i j q _ rfl rfl rfl rfl v1 v2 v3 rfl rfl rfl hh1 hh2 hh3 HN.out HST.out hcc)
  ·apply_assumption
   exact of_frame288 _ rfl (bent_arm12 B w _ b3 b6 c d n i j q _ rfl rfl rfl rfl v1 v2 v3 rfl rfl rfl hh1 hh2 hh3 HN.out HST.out hcc)
  ·apply_assumption
   exact of_frame288 _ rfl (bent_arm13 B w _ b3 b6 c d n i j q _ rfl rfl rfl rfl v1 v2 v3 rfl rfl rfl hh1 hh2 hh3 HN.out HST.out hcc)
  ·apply_assumption
   exact of_frame288 _ rfl (bent_arm14 B w _ b3 b6 c d n i j q _ rfl rfl rfl rfl v1 v2 v3 rfl rfl rfl hh1 hh2 hh3 HN.out HST.out hcc)
  ·apply_assumption
   exact of_frame288 _ rfl (bent_arm15 B w _ b3 b6 c d n i j q _ rfl rfl rfl rfl v1 v2 v3 rfl rfl rfl hh1 hh2 hh3 HN.out HST.out hcc)
  ·apply_assumption
   exact of_frame288 _ rfl (bent_arm16 B w _ b3 b6 c d n i j q _ rfl rfl rfl rfl v1 v2 v3 rfl rfl rfl hh1 hh2 hh3 HN.out HST.out hcc)
  ·apply_assumption
   exact of_frame288 _ rfl (bent_arm17 B w _ b3 b6 c d n i j q _ rfl rfl rfl rfl v1 v2 v3 rfl rfl rfl hh1 hh2 hh3 HN.out HST.out hcc)
  ·apply_assumption
   exact of_frame288 _ rfl (bent_arm18 B w _ b3 b6 c d n i j q _ rfl rfl rfl rfl v1 v2 v3 rfl rfl rfl hh1 hh2 hh3 HN.out HST.out hcc)
  ·apply_assumption
   exact of_frame288 _ rfl (bent_arm19 B w _ b3 b6 c d n i j q _ rfl rfl rfl rfl v1 v2 v3 rfl rfl rfl hh1 hh2 hh3 HN.out HST.out hcc)
  ·apply_assumption
   exact of_frame288 _ rfl (bent_arm20 B w _ b3 b6 c d n i j q _ rfl rfl rfl rfl v1 v2 v3 rfl rfl rfl hh1 hh2 hh3 HN.out HST.out hcc)
  ·apply_assumption
   exact of_frame288 _ rfl (bent_arm21 B w _ b3 b6 c d n i j q _ rfl rfl rfl rfl v1 v2 v3 rfl rfl rfl hh1 hh2 hh3 HN.out HST.out hcc)
  ·apply_assumption
   exact of_frame288 _ rfl (bent_arm22 B w _ b3 b6 c d n i j q _ rfl rfl rfl rfl v1 v2 v3 rfl rfl rfl hh1 hh2 hh3 HN.out HST.out hcc)
  ·apply_assumption
   exact of_frame288 _ rfl (bent_arm23 B w _ b3 b6 c d n i j q _ rfl rfl rfl rfl v1 v2 v3 rfl rfl rfl hh1 hh2 hh3 HN.out HST.out hcc)
  ·apply_assumption
   exact of_frame288 _ rfl (bent_arm24 B w _ b3 b6 c d n i j q _ rfl rfl rfl rfl v1 v2 v3 rfl rfl rfl hh1 hh2 hh3 HN.out HST.out hcc)
  ·apply_assumption
   exact of_frame288 _ rfl (bent_arm25 B w _ b3 b6 c d n i j q _ rfl rfl rfl rfl v1 v2 v3 rfl rfl rfl hh1 hh2 hh3 HN.out HST.out hcc)
  ·apply_assumption
   exact of_frame288 _ rfl (bent_arm26 B w _ b3 b6 c d n i j q _ rfl rfl rfl rfl v1 v2 v3 rfl rfl rfl hh1 hh2 hh3 HN.out HST.out hcc)
  ·apply_assumption
   exact of_frame288 _ rfl (bent_arm27 B w _ b3 b6 c d n i j q _ rfl rfl rfl rfl v1 v2 v3 rfl rfl rfl hh1 hh2 hh3 HN.out HST.out hcc)
  ·apply_assumption
   exact of_frame288 _ rfl (bent_arm28 B w _ b3 b6 c d n i j q _ rfl rfl rfl rfl v1 v2 v3 rfl rfl rfl hh1 hh2 hh3 HN.out HST.out hcc)
  ·apply_assumption
   exact of_frame288 _ rfl (bent_arm29 B w _ b3 b6 c d n i j q _ rfl rfl rfl rfl v1 v2 v3 rfl rfl rfl hh1 hh2 hh3 HN.out HST.out hcc)
end Go.Proofs.YtoaiakhnnfbkdaaGreatDoor
