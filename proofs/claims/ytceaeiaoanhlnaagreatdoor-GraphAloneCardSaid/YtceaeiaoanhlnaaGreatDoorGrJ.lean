import Derived.Test.YtceaeiaoanhlnaaGreatDoorGrI
import Derived.Test.YtceaeiaoanhlnaaGreatDoorGpJ
set_option maxRecDepth 100000
set_option maxHeartbeats 32000000
namespace Go.Proofs.YtceaeiaoanhlnaaGreatDoor
open Go.ChangeShapes Go.WideShapes Go.ChangeAt Go.RowKit Go.Lib Go.Shelf
theorem frame89 (x : Nat -> Value) : frameOf 89 x = #[x 0,x 1,x 2,x 3,x 4,x 5,x 6,x 7,x 8,x 9,x 10,x 11,x 12,x 13,x 14,x 15,x 16,x 17,x 18,x 19,x 20,x 21,x 22,x 23,x 24,x 25,x 26,x 27,x 28,x 29,x 30,x 31,x 32,x 33,x 34,x 35,x 36,x 37,x 38,x 39,x 40,x 41,x 42,x 43,x 44,x 45,x 46,x 47,x 48,x 49,x 50,x 51,x 52,x 53,x 54,x 55,x 56,x 57,x 58,x 59,x 60,x 61,x 62,x 63,x 64,x 65,x 66,x 67,x 68,x 69,x 70,x 71,x 72,x 73,x 74,x 75,x 76,x 77,x 78,x 79,x 80,x 81,x 82,x 83,x 84,x 85,x 86,x 87,x 88] := rfl
theorem rfine_any (c : ConfD) (p : ByteArray) (w : World) (h : GC w c) (hp : SzB p) :
  Calls Tryz.prog 42 #[.agg (encC c).toArray,.string p] w fun e w' => e = .returned (.bool (fineB c p)) /\ Ext w w' := by
 obtain ⟨cd,hcd1,hcd2⟩ := Tryz.confDesc;obtain ⟨rd,hrd1,hrd2⟩ := Tryz.ruleDesc;have hx : Ext w (w.alloc (.cells (encC c).toArray 30)) := za;have hb1 : BoxC (w.alloc (.cells (encC c).toArray 30)) w.heap.size c := heap_alloc_new w (.cells (encC c).toArray 30);have hse := fun X (hX : Ext w X) => rser_any c p X (h.ext hX) hp;have hco := fun X (hX : Ext w X) => rcop_any c p X (h.ext hX) hp;have hon := fun X (hX : Ext w X) => ron_any c.R p c.rv X (h.ext hX).r (h.ext hX).rk (chk_paths h.chk h.fit) hp (by have := chk_R h.chk; omega);have hen := fun (id : Int) X (hX : Ext w X) => rends_any c id X (h.ext hX);have hwi := fun (id : Int) X (hX : Ext w X) => rwithin_any33 c id X (h.ext hX);have hru := (h.ext hx).r;have hrk := (h.ext hx).rk;have hoa := onL_at c.R p;have hol := onRows_len c.R p;have hrl := chk_R h.chk;have hll : (onR c.R p).length <= c.R.length := by unfold onR; exact List.length_filter_le _ _
 have hac := targ_len h.chk p;obtain ⟨_,ra,rcc,hrv⟩ := hru.shape;rw [hrv] at hru hon;have hT : fineB c p = ((onR c.R p).all (fun r => decide (r.ab <= 0) && decide (r.rate <= 0)) && ((targS c.R p).all (fun id => hasEnd c.E id && !withinB c id) && ((targC c.R p).all (fun id => !withinB c id) && openB (onR c.R p)))) := rfl;obtain ⟨R,hR⟩ : ∃ R,fineB c p = R := ⟨_,rfl⟩;rw [hR] at hT ⊢;generalize onL c.R (bl p) c.R.length = O at hon hoa hol;generalize onR c.R p = M at hoa hol hll hT;generalize targS c.R p = A at hse hac hT;generalize targC c.R p = C at hco hac hT;generalize hasEnd c.E = HB at hen hT;generalize withinB c = WB at hwi hT
 have hf1 : ∀ r ∈ M,(decide (r.ab <= 0) && decide (r.rate <= 0)) = false -> R = false := fun r hr hf => by
  rw [hT]
  have : M.all (fun r => decide (r.ab <= 0) && decide (r.rate <= 0)) = false := by
   rw [Bool.eq_false_iff];intro ha;have := List.all_eq_true.1 ha r hr;rw [hf] at this;cases this
  rw [this];rfl
 have hf2 : ∀ id ∈ A,(HB id && !WB id) = false -> R = false := fun id hid hf => by
  rw [hT]
  have : A.all (fun id => HB id && !WB id) = false := by
   rw [Bool.eq_false_iff];intro ha;have := List.all_eq_true.1 ha id hid;rw [hf] at this;cases this
  rw [this];simp
 have hf3 : ∀ id ∈ C,WB id = true -> R = false := fun id hid hf => by
  rw [hT]
  have : C.all (fun id => !WB id) = false := by
   rw [Bool.eq_false_iff];intro ha;have := List.all_eq_true.1 ha id hid;rw [hf] at this;cases this
  rw [this];simp
 have hf4 : (∀ r ∈ M,(decide (r.ab <= 0) && decide (r.rate <= 0)) = true) -> (∀ id ∈ A,(HB id && !WB id) = true) -> (∀ id ∈ C,WB id = false) -> R = openB M := fun h1 h2 h3 => by
  rw [hT,List.all_eq_true.2 h1,List.all_eq_true.2 h2,List.all_eq_true.2 (fun id hid => by rw [h3 id hid]; rfl)];rfl
 have HF1 := hide hf1;have HF2 := hide hf2;have HF3 := hide hf3;have HF4 := hide hf4;have HSER := hide hse;have HCOP := hide hco;have HON := hide hon;have HENB := hide hen;have HWIB := hide hwi;have HOA := hide hoa;have HOL := hide hol;have HRL := hide hrl;have HLL := hide hll;have HAC := hide hac;have HRV := hide hrv;clear hf1 hf2 hf3 hf4 hse hco hon hen hwi hoa hol hrl hll hac hT hrv h hp hR
 go_enter Tryz.func42,Tryz.ntmps42
 go_upto_region 1 with (fail)
 show Code.wp _ _ _ _ (w.alloc (.cells (encC c).toArray 30));generalize w.alloc (.cells (encC c).toArray 30) = W at hx hb1 hru hrk ⊢;obtain ⟨b2,hbn⟩ : ∃ b,w.heap.size = b := ⟨_,rfl⟩;rw [hbn] at hb1 ⊢;have HX := hide hx;have HBX := hide (fun X (hX : Ext W X) => BoxC.ext hb1 hX);clear hx hb1 hbn;have HRU := hide hru;have HRK := hide hrk;have HCR := hide (fun X (hX : Ext W X) => (by have := (HBX.out X hX).cell 2 _ (show (encC c)[2]? = some c.rv from rfl); rw [HRV.out] at this; exact this : X.cell? ⟨b2,2,none⟩ = some (.slice ra c.R.length rcc)));have y1 := HCR.out W zb;clear hru hrk
 go_wp2_with fail
 refine (HON.out W HX.out).mono ?_;rintro e W1 ⟨v1,rfl,hio,E1⟩;obtain ⟨hlo,ia,ic,rfl⟩ := hio.shape;have HIO := hide hio;have HE1 := hide E1;clear hio E1 y1 HON
 go_wp2_with fail
 go_loopw [5,7] (fun v5 v7 wr => ∃ (j : Nat) (ob : Bool),j <= M.length /\ v7 = .int .i64 j /\ v5 = .bool ob /\ ob = openB (M.take j) /\ (∀ r ∈ M.take j,(decide (r.ab <= 0) && decide (r.rate <= 0)) = true) /\ Ext W1 wr) (fun _ j _ => M.length - (intOf j).toNat)
 case atStart => exact ⟨0,false,Nat.zero_le _,rfl,rfl,rfl,fun r hr => by simp at hr,zb⟩
 case round =>
  obtain ⟨j,ob,hj,rfl,rfl,hob,hgr,hext⟩ := hrel;have HEJ := hide hext;have HEW := hide (HE1.out.trans hext);have HGR := hide hgr;have HOB := hide hob;clear hext hgr hob;have hjo : (O.length : Int) = M.length := by rw [HOL.out]
  by_cases hltj : j < M.length
  ·have hltjz : (j : Int) < O.length := (by omega);have hwj : IntKind.i64.wrap ((j : Int) + 1) = ((j + 1 : Nat) : Int) := (by have := HLL.out; have := HRL.out; rw [IntKind.wrap_i64]; omega);obtain ⟨q,hq,hoq,hmq⟩ := HOA.out j hltj;have hqz : (q : Int) < c.R.length := (by omega);have hjO : j < O.length := (by omega);obtain ⟨ib,io,rfl,hib,hcq⟩ := ints_row HIO.out j hjO;rw [show O[j] = (q : Int) by have := (List.getElem?_eq_some_iff.1 hoq).2; exact this] at hcq;obtain ⟨rb,ro,rfl,hrb,hcell⟩ := rule_row HRU.out q hq;have hrok := HRK.out c.R[q] (List.getElem_mem hq);have hfl := HF1.out M[j] (List.getElem_mem hltj)
   have hsn : openB (M.take (j + 1)) = (openB (M.take j) || M[j].H.isEmpty) := by
    unfold openB;rw [take_snoc M j hltj,List.any_append];simp
   have hgd : (decide (M[j].ab <= 0) && decide (M[j].rate <= 0)) = true -> ∀ r ∈ M.take (j + 1),(decide (r.ab <= 0) && decide (r.rate <= 0)) = true := fun h r hr => by
    rw [take_snoc M j hltj] at hr;rcases List.mem_append.1 hr with hr | hr
    ·exact HGR.out r hr
    ·rw [List.mem_singleton.1 hr];exact h
   rw [<- HOB.out] at hsn;rw [hmq] at hfl hsn hgd;generalize c.R[q] = r at hcell hrok hfl hsn hgd;obtain ⟨-,hha,hcc,hhv⟩ := hrok.1.shape;have HHV := hide hhv;have HR1 := hide (encR_one' r hrok);have HSN := hide hsn;have HFL := hide hfl;have HGD := hide hgd;have HIR := hide (fun X (hX : Ext wr X) => (fun k v hv => cell_ext (HEW.out.trans hX) (hcell k v hv) : X.rangeAt rb (ro + q * 19) (encR r)));have HOC := hide (fun X (hX : Ext wr X) => cell_ext (HEJ.out.trans hX) hcq);clear hsn hfl hgd hhv hrok hcq hcell hib hrb hoq hmq
   go_upto_region 6 with (fail)
   refine wp_region_rwz 89 [8,9] [8,23,24,25,26,27,28,29,30] (PhV0 wr 54 #[.string ⟨#[]⟩,.bool false,.slice none 0 0,.slice none 0 0,.int .i64 0,.int .i64 0,.int .i64 0,.int .i64 0,.string ⟨#[]⟩,.slice none 0 0,.slice none 0 0,.int .i64 0,.int .i64 0,.int .i64 0,.int .i64 0,.int .i64 0,.int .i64 0,.int .i64 0,.int .i64 0] (encR r)) (fun (t : Nat) (wI : World) (v : Value) => match t with | 23 => v = (.pointer (some ⟨b2,2,none⟩)) | 24 => v = (.slice (some ⟨rb,ro,none⟩) c.R.length rcc) | 25 => v = (.slice (some ⟨ib,io,none⟩) O.length ic) | 26 => v = (.int .i64 (j : Int)) | 27 => v = (.pointer (some ⟨ib,io + j,none⟩)) | 28 => v = (.int .i64 (q : Int)) | 29 => v = (.pointer (some ⟨rb,ro + q * 19,none⟩)) | 30 => v = (.agg (encR r).toArray) | _ => True) (fun _ _ => True) (by kernel_rfl) rfl (by kernel_rfl) (by kernel_rfl) (by kernel_rfl) (by kernel_rfl) ?_ ?_ ?_ ?_ ?_ ?_ ?_
   ·intro w' w'' h;trivial
   ·intro t w' w'' v hR hv;exact hv
   ·intro vs w' w'' h e;exact h.keep e
   ·exact zb.drew
   ·intro i o ho hmi vs X w' hpk hph hX hI hF K hK;have hin : i < 10 := (zg ho);rcases zo hin with rfl | rfl | rfl | rfl | rfl | rfl | rfl | rfl | rfl | rfl
    all_goals first | (exact absurd hmi (by decide)) | (obtain rfl := Option.some.inj ho; unfold wpOp; simp only [ho]; rw [if_pos (by rfl)]; left; rw [frame89])
    ·have e2 : X 2 = (.pointer (some ⟨b2,0,none⟩)) := hF 2 (by kernel_rfl);go_simp;refine zm1 hK ((.pointer (some ⟨b2,2,none⟩))) ?_;simp [frame89,Act.put, *]
    ·have e23 : X 23 = _ := zk2 (hI 23);have hx := hph.e;have q1 := HCR.out w' (HEW.out.trans hx);go_simp;refine zm1 hK ((.slice (some ⟨rb,ro,none⟩) c.R.length rcc)) ?_;simp [frame89,Act.put, *]
    ·have e6 : X 6 = (.slice (some ⟨ib,io,none⟩) O.length ic) := hF 6 (by kernel_rfl);go_simp;refine zm1 hK ((.slice (some ⟨ib,io,none⟩) O.length ic)) ?_;simp [frame89,Act.put, *]
    ·have e7 : X 7 = (.int .i64 (j : Int)) := hF 7 (by kernel_rfl);go_simp;refine zm1 hK ((.int .i64 (j : Int))) ?_;simp [frame89,Act.put, *]
    ·have e25 : X 25 = _ := zk2 (hI 25);have e26 : X 26 = _ := zk2 (hI 26);go_simp;refine zm1 hK ((.pointer (some ⟨ib,io + j,none⟩))) ?_;simp [frame89,Act.put, *]
    ·have e27 : X 27 = _ := zk2 (hI 27);have hx := hph.e;have q1 := HOC.out w' hx;go_simp;refine zm1 hK ((.int .i64 (q : Int))) ?_;simp [frame89,Act.put, *]
    ·have e24 : X 24 = _ := zk2 (hI 24);have e28 : X 28 = _ := zk2 (hI 28);go_simp;refine zm1 hK ((.pointer (some ⟨rb,ro + q * 19,none⟩))) ?_;simp [frame89,Act.put, *]
    ·have e29 : X 29 = _ := zk2 (hI 29);have hx := hph.e;refine wp_load_mid 54 (.tmp 29) rfl rb (ro + q * 19) e29 (encR r) rd (HIR.out w' hx) hrd1 hrd2 Tryz.ruleSize (metK (hK.out (.agg (encR r).toArray) _ zb (fun d hd => by cases hd; exact rfl)) ?_);simp [frame89,Act.put, *]
   ·intro i o ho hmi vs X w' hqi hql hph hX hI hF K hK;rcases vs with _ | ⟨v0,_ | ⟨v1,_⟩⟩
    ·obtain rfl : 8 = i := hqi;obtain rfl := Option.some.inj ho;have hx : Ext wr w' := hph;unfold wpOp;simp only [ho];rw [if_pos (by rfl)];left;rw [frame89];go_simp;refine metK (hK.out (.pointer (some ⟨w'.heap.size,0,none⟩)) (w'.alloc (.cells #[.string ⟨#[]⟩,.bool false,.slice none 0 0,.slice none 0 0,.int .i64 0,.int .i64 0,.int .i64 0,.int .i64 0,.string ⟨#[]⟩,.slice none 0 0,.slice none 0 0,.int .i64 0,.int .i64 0,.int .i64 0,.int .i64 0,.int .i64 0,.int .i64 0,.int .i64 0,.int .i64 0] 54)) ⟨hx.trans za,w'.heap.size,rfl,hx.size,heap_alloc_new _ _⟩ trivial) ?_;simp [frame89,Act.put, *]
    ·obtain rfl : 9 = i := hqi;obtain rfl := Option.some.inj ho;have e8 : X 8 = v0 := hX 0 8 (by simp) (by kernel_rfl);have e30 : X 30 = _ := zk2 (hI 30);obtain ⟨hx,b,rfl,hge,hb⟩ := hph;unfold wpOp;simp only [ho];rw [if_pos (by rfl)];left;rw [frame89];refine wp_store_mid 54 (.tmp 8) (.tmp 30) rfl b 0 (encR r).toArray (by simp [Act.eval, *]) (by simp [Act.eval, *]) (there_cells hb rfl) Tryz.ruleSize (all_oneCell_toArray HR1.out) ?_;refine metK (hK.out undef _ ⟨Keeps.ext hx (keeps_setCellsG b (encR r) 0 w') (fun q hq => by rw [hq]; exact hge),b,rfl,hge,set_cells hb rfl⟩ trivial) ?_;simp [frame89,Act.put, *]
    ·simp at hql <;> omega
   ·intro vs X w' hlen hph hX hI;have e23 : X 23 = _ := zk4 (hI 23);have e24 : X 24 = _ := zk4 (hI 24);have e25 : X 25 = _ := zk4 (hI 25);have e26 : X 26 = _ := zk4 (hI 26);have e27 : X 27 = _ := zk4 (hI 27);have e28 : X 28 = _ := zk4 (hI 28);have e29 : X 29 = _ := zk4 (hI 29);have e30 : X 30 = _ := zk4 (hI 30);rcases vs with _ | ⟨v0,_ | ⟨v1,_ | ⟨vz,vs⟩⟩⟩
    ·simp at hlen
    ·simp at hlen
    rotate_left
    ·simp at hlen
    have e8 : X 8 = v0 := hX 0 8 (by simp) (by kernel_rfl);clear hX hI hlen;simp only [overF,List.foldl_cons,List.foldl_nil,List.setIfInBounds_toArray,List.set_cons_succ,List.set_cons_zero,e8,e23,e24,e25,e26,e27,e28,e29,e30];obtain ⟨hx9,b,rfl,hge,hb⟩ := hph;have y2 : w'.cell? ⟨b,2,none⟩ = some (.slice hha r.H.length hcc) := (by rw [<- HHV.out]; exact cell_box hb 2 _ rfl);have y5 : w'.cell? ⟨b,5,none⟩ = some (.int .i64 r.ab) := cell_box hb 5 _ rfl;have y18 : w'.cell? ⟨b,18,none⟩ = some (.int .i64 r.rate) := cell_box hb 18 _ rfl;have HE9 := hide (HEJ.out.trans hx9);have HZ := hide (HX.out.trans (HEW.out.trans hx9));have hsn := HSN.out;have hfl := HFL.out;have hgd := HGD.out;clear hx9 hb hge e23 e24 e25 e26 e27 e28 e29 e30;generalize w' = W9 at *;have hem : r.H.isEmpty = decide (r.H.length = 0) := by cases r.H <;> simp
    generalize r.ab = ab at *;generalize r.rate = rate at *;rw [hem] at hsn;generalize r.H.length = hn at *;have HSN2 := hide hsn;have HFL2 := hide hfl;have HGD2 := hide hgd;clear hsn hfl hgd hem HSN HFL HGD HHV
    cases ob with
    | true =>
     by_cases hab : 0 < ab
     ·have habd : decide (0 < ab) = true := decide_eq_true hab;have HRF := hide (HFL2.out (by simp; omega));go_wp2;go_ret;exact ⟨by rw [HRF.out]; rfl,HZ.out⟩
     ·have habd : decide (0 < ab) = false := decide_eq_false hab;by_cases hra : 0 < rate
      ·have hrad : decide (0 < rate) = true := decide_eq_true hra;have HRF := hide (HFL2.out (by simp; omega));go_wp2;go_ret;exact ⟨by rw [HRF.out]; rfl,HZ.out⟩
      ·have hrad : decide (0 < rate) = false := decide_eq_false hra;have HGN := hide (HGD2.out (by simp; omega));go_wp2
       go_roundw
       case rel => exact ⟨j + 1,_,hltj,by go_num,rfl,by rw [HSN2.out]; try simp [*],HGN.out,HE9.out⟩
       case measure => simp [intOf] <;> omega
    | false =>
     by_cases hn0 : hn = 0
     ·have hnb : ((hn : Int) == 0) = true := (by simp [hn0]);by_cases hab : 0 < ab
      ·have habd : decide (0 < ab) = true := decide_eq_true hab;have HRF := hide (HFL2.out (by simp; omega));go_wp2;go_ret;exact ⟨by rw [HRF.out]; rfl,HZ.out⟩
      ·have habd : decide (0 < ab) = false := decide_eq_false hab;by_cases hra : 0 < rate
       ·have hrad : decide (0 < rate) = true := decide_eq_true hra;have HRF := hide (HFL2.out (by simp; omega));go_wp2;go_ret;exact ⟨by rw [HRF.out]; rfl,HZ.out⟩
       ·have hrad : decide (0 < rate) = false := decide_eq_false hra;have HGN := hide (HGD2.out (by simp; omega));go_wp2
        go_roundw
        case rel => exact ⟨j + 1,_,hltj,by go_num,rfl,by rw [HSN2.out]; try simp [*],HGN.out,HE9.out⟩
        case measure => simp [intOf] <;> omega
     ·have hnb : ((hn : Int) == 0) = false := beq_eq_false_iff_ne.2 (by omega);by_cases hab : 0 < ab
      ·have habd : decide (0 < ab) = true := decide_eq_true hab;have HRF := hide (HFL2.out (by simp; omega));go_wp2;go_ret;exact ⟨by rw [HRF.out]; rfl,HZ.out⟩
      ·have habd : decide (0 < ab) = false := decide_eq_false hab;by_cases hra : 0 < rate
       ·have hrad : decide (0 < rate) = true := decide_eq_true hra;have HRF := hide (HFL2.out (by simp; omega));go_wp2;go_ret;exact ⟨by rw [HRF.out]; rfl,HZ.out⟩
       ·have hrad : decide (0 < rate) = false := decide_eq_false hra;have HGN := hide (HGD2.out (by simp; omega));go_wp2
        go_roundw
        case rel => exact ⟨j + 1,_,hltj,by go_num,rfl,by rw [HSN2.out]; try simp [*],HGN.out,HE9.out⟩
        case measure => simp [intOf] <;> omega
  ·obtain rfl : j = M.length := (by omega);have hltjz : ¬ ((M.length : Nat) : Int) < O.length := (by omega);have hob := HOB.out;have hgr := HGR.out;rw [List.take_length] at hob hgr;have HG1 := hide hgr;have HO1 := hide hob;have hbx := HBX.out wr HEW.out;obtain ⟨W2,rfl⟩ : ∃ x : World,x = wr := ⟨_,rfl⟩;clear hob hgr HOB HGR
   go_wp2_with (first | (refine BigFrame.wpList_want (by rfl) fun K hK => ?_; refine wp_load_mid 30 (.tmp 2) rfl b2 0 rfl (encC c) cd hbx.range hcd1 hcd2 Tryz.confSize ?_; refine hK _ _ ?_; simp only [Act.put]))
   refine (HSER.out W2 (HX.out.trans HEW.out)).mono ?_;rintro e W3 ⟨v3,rfl,ho3,E3⟩;obtain ⟨aa,ac,rfl⟩ := owns_shape ho3;have HROW := hide ho3;have HE3 := hide (HEW.out.trans E3);clear ho3 E3 hbx HSER HEJ HEW hltjz
   go_wp2_with fail
   go_loopw [10] (fun v10 wr => ∃ i : Nat,i <= A.length /\ v10 = .int .i64 i /\ (∀ id ∈ A.take i,(HB id && !WB id) = true) /\ Ext W3 wr) (fun i _ => A.length - (intOf i).toNat)
   case atStart => exact ⟨0,Nat.zero_le _,rfl,fun r hr => by simp at hr,zb⟩
   case round =>
    obtain ⟨i,hi,rfl,hgr,hext⟩ := hrel;have HEJ := hide hext;have HEW := hide (HE3.out.trans hext);have HGR := hide hgr;clear hext hgr;by_cases hlt : i < A.length
    ·have hltz : (i : Int) < A.length := (by omega);have hwi : IntKind.i64.wrap ((i : Int) + 1) = ((i + 1 : Nat) : Int) := (by have := HAC.out; rw [IntKind.wrap_i64]; omega);obtain ⟨ga,cap,hgv,-⟩ := owns_block HROW.out (by omega);injection hgv with h1 h2 h3;subst h1;obtain ⟨bq,oq,eq,-,hxc⟩ := ints_row (Sl.of_own' (enc := encI) (fun _ => rfl) HROW.out : Ints W3 (.slice (some ⟨ga,0,none⟩) A.length ac) A) i hlt;cases eq;rw [Nat.zero_add] at hxc;have hfl := HF2.out A[i] (List.getElem_mem hlt)
     have hgd : (HB A[i] && !WB A[i]) = true -> ∀ id ∈ A.take (i + 1),(HB id && !WB id) = true := fun h id hid => by
      rw [take_snoc A i hlt] at hid;rcases List.mem_append.1 hid with hid | hid
      ·exact HGR.out id hid
      ·rw [List.mem_singleton.1 hid];exact h
     have hen := HENB.out A[i];have hwi2 := HWIB.out A[i];generalize A[i] = x at hxc hfl hgd hen hwi2;generalize HB x = hb at hfl hgd hen;generalize WB x = wb at hfl hgd hwi2;have HFL := hide hfl;have HGD := hide hgd;have HEN := hide (fun X (hX : Ext W X) => hen X (HX.out.trans hX));have HWI := hide (fun X (hX : Ext W X) => hwi2 X (HX.out.trans hX));have HXC := hide (fun X (hX : Ext wr X) => cell_ext (HEJ.out.trans hX) hxc);clear hfl hgd hen hwi2 hxc h2 h3
     go_upto_region 14 with (fail)
     refine wp_region_ro 89 [11,57,58,59,60,61,62] (fun w' => Ext wr w') (fun (t : Nat) (wI : World) (v : Value) => match t with | 11 => v = (.bool hb) | 57 => v = (.agg (encC c).toArray) | 58 => v = (.slice (some ⟨ga,0,none⟩) A.length ac) | 59 => v = (.int .i64 (i : Int)) | 60 => v = (.pointer (some ⟨ga,i,none⟩)) | 61 => v = (.int .i64 x) | 62 => v = (.bool hb) | _ => True) (by kernel_rfl) rfl (by kernel_rfl) (by kernel_rfl) (by kernel_rfl) ?_ ?_ ?_ ?_ ?_
     ·intro t w' w'' v hR hv;exact hv
     ·intro w' w'' h e;exact Ext.trans (show Ext _ w' from h) e
     ·exact zb.drew
     ·intro i o ho X w' hph hI hF K hK;have hin : i < 7 := (zg ho);rcases zo hin with rfl | rfl | rfl | rfl | rfl | rfl | rfl
      all_goals first | (exact absurd hmi (by decide)) | (obtain rfl := Option.some.inj ho; unfold wpOp; simp only [ho]; rw [if_pos (by rfl)]; left; rw [frame89])
      ·have e2 : X 2 = (.pointer (some ⟨b2,0,none⟩)) := hF 2 (by kernel_rfl);have hx : Ext W w' := HEW.out.trans hph;refine wp_load_mid 30 (.tmp 2) rfl b2 0 e2 (encC c) cd (BoxC.range (HBX.out w' hx)) hcd1 hcd2 Tryz.confSize (metK (hK.out (.agg (encC c).toArray) _ zb (fun d hd => by cases hd; exact rfl)) ?_);simp [frame89,Act.put, *]
      ·have e9 : X 9 = (.slice (some ⟨ga,0,none⟩) A.length ac) := hF 9 (by kernel_rfl);go_simp;refine zm1 hK ((.slice (some ⟨ga,0,none⟩) A.length ac)) ?_;simp [frame89,Act.put, *]
      ·have e10 : X 10 = (.int .i64 (i : Int)) := hF 10 (by kernel_rfl);go_simp;refine zm1 hK ((.int .i64 (i : Int))) ?_;simp [frame89,Act.put, *]
      ·have e58 : X 58 = _ := zk1 (hI 58);have e59 : X 59 = _ := zk1 (hI 59);go_simp;refine zm1 hK ((.pointer (some ⟨ga,i,none⟩))) ?_;simp [frame89,Act.put, *]
      ·have e60 : X 60 = _ := zk1 (hI 60);have hx : Ext W w' := HEW.out.trans hph;have q1 := HXC.out w' hph;go_simp;refine zm1 hK ((.int .i64 x)) ?_;simp [frame89,Act.put, *]
      ·have e57 : X 57 = _ := zk1 (hI 57);have e61 : X 61 = _ := zk1 (hI 61);have hx : Ext W w' := HEW.out.trans hph;go_simp;refine (HEN.out w' hx).mono ?_;rintro e w9 ⟨rfl,E9⟩;refine metK (hK.out (.bool hb) w9 E9 (fun d hd => by cases hd; exact rfl)) ?_;simp [frame89,Act.put, *]
      ·have e62 : X 62 = _ := zk1 (hI 62);go_simp;refine zm1 hK ((.bool hb)) ?_;simp [frame89,Act.put, *]
     ·intro X w' hph hI;have e11 : X 11 = _ := zk1 (hI 11);have e57 : X 57 = _ := zk1 (hI 57);have e58 : X 58 = _ := zk1 (hI 58);have e59 : X 59 = _ := zk1 (hI 59);have e60 : X 60 = _ := zk1 (hI 60);have e61 : X 61 = _ := zk1 (hI 61);have e62 : X 62 = _ := zk1 (hI 62);clear hI;simp only [overF,List.foldl_cons,List.foldl_nil,List.setIfInBounds_toArray,List.set_cons_succ,List.set_cons_zero,e11,e57,e58,e59,e60,e61,e62];have hx9 : Ext wr w' := hph;have HE14 := hide (HEW.out.trans hx9);have HEJ14 := hide (HEJ.out.trans hx9);have HXC14 := hide (fun X (hX : Ext w' X) => HXC.out X (hx9.trans hX));clear hph hx9 e57 e58 e59 e60 e61 e62;generalize w' = W14 at *
      cases hb with
      | false =>
       have HRF := hide (HFL.out rfl)
       go_upto_region 15 with (fail)
       refine wp_region_ro 89 [63,64,65,66,67,68,69,70,71,72] (fun w' => Ext W14 w') (fun (t : Nat) (wI : World) (v : Value) => match t with | 63 => v = (.bool false) | 64 => v = (.bool true) | 65 => v = (.bool true) | 66 => v = undef | 67 => v = undef | 68 => v = undef | 69 => v = undef | 70 => v = undef | 71 => v = undef | 72 => v = (.bool true) | _ => True) (by kernel_rfl) rfl (by kernel_rfl) (by kernel_rfl) (by kernel_rfl) ?_ ?_ ?_ ?_ ?_
       ·intro t w' w'' v hR hv;exact hv
       ·intro w' w'' h e;exact Ext.trans (show Ext _ w' from h) e
       ·exact zb.drew
       ·intro i o ho X w' hph hI hF K hK;have hin : i < 10 := (zg ho);rcases zo hin with rfl | rfl | rfl | rfl | rfl | rfl | rfl | rfl | rfl | rfl
        ·obtain rfl := Option.some.inj ho;have e11 : X 11 = (.bool false) := hF 11 (by kernel_rfl);unfold wpOp;simp only [ho];rw [if_pos (by rfl)];left;rw [frame89];go_simp;refine zm1 hK ((.bool false)) ?_;simp [frame89,Act.put, *]
        ·obtain rfl := Option.some.inj ho;have e63 : X 63 = _ := zk1 (hI 63);unfold wpOp;simp only [ho];rw [if_pos (by rfl)];left;rw [frame89];go_simp;refine zm1 hK ((.bool true)) ?_;simp [frame89,Act.put, *]
        ·obtain rfl := Option.some.inj ho;have e64 : X 64 = _ := zk1 (hI 64);unfold wpOp;simp only [ho];rw [if_pos (by rfl)];left;rw [frame89];go_simp;refine zm1 hK ((.bool true)) ?_;simp [frame89,Act.put, *]
        ·obtain rfl := Option.some.inj ho;have e2 : X 2 = (.pointer (some ⟨b2,0,none⟩)) := hF 2 (by kernel_rfl);have e65 : X 65 = _ := zk1 (hI 65);unfold wpOp;simp only [ho];rw [frame89];simp only [e65];rw [if_neg (by intro h; exact absurd (show false = true from h) (by decide))];refine zm1 hK undef ?_;simp [frame89,Act.put, *]
        ·obtain rfl := Option.some.inj ho;have e9 : X 9 = (.slice (some ⟨ga,0,none⟩) A.length ac) := hF 9 (by kernel_rfl);have e65 : X 65 = _ := zk1 (hI 65);unfold wpOp;simp only [ho];rw [frame89];simp only [e65];rw [if_neg (by intro h; exact absurd (show false = true from h) (by decide))];refine zm1 hK undef ?_;simp [frame89,Act.put, *]
        ·obtain rfl := Option.some.inj ho;have e10 : X 10 = (.int .i64 (i : Int)) := hF 10 (by kernel_rfl);have e65 : X 65 = _ := zk1 (hI 65);unfold wpOp;simp only [ho];rw [frame89];simp only [e65];rw [if_neg (by intro h; exact absurd (show false = true from h) (by decide))];refine zm1 hK undef ?_;simp [frame89,Act.put, *]
        ·obtain rfl := Option.some.inj ho;have e65 : X 65 = _ := zk1 (hI 65);have e67 : X 67 = _ := zk1 (hI 67);have e68 : X 68 = _ := zk1 (hI 68);unfold wpOp;simp only [ho];rw [frame89];simp only [e65];rw [if_neg (by intro h; exact absurd (show false = true from h) (by decide))];refine zm1 hK undef ?_;simp [frame89,Act.put, *]
        ·obtain rfl := Option.some.inj ho;have e65 : X 65 = _ := zk1 (hI 65);have e69 : X 69 = _ := zk1 (hI 69);unfold wpOp;simp only [ho];rw [frame89];simp only [e65];rw [if_neg (by intro h; exact absurd (show false = true from h) (by decide))];refine zm1 hK undef ?_;simp [frame89,Act.put, *]
        ·obtain rfl := Option.some.inj ho;have e65 : X 65 = _ := zk1 (hI 65);have e66 : X 66 = _ := zk1 (hI 66);have e70 : X 70 = _ := zk1 (hI 70);unfold wpOp;simp only [ho];rw [frame89];simp only [e65];rw [if_neg (by intro h; exact absurd (show false = true from h) (by decide))];refine zm1 hK undef ?_;simp [frame89,Act.put, *]
        ·obtain rfl := Option.some.inj ho;have e65 : X 65 = _ := zk1 (hI 65);have e71 : X 71 = _ := zk1 (hI 71);unfold wpOp;simp only [ho];rw [if_pos (by rfl)];left;rw [frame89];go_simp;refine zm1 hK ((.bool true)) ?_;simp [frame89,Act.put, *]
       ·intro X w' hph hI;have e63 : X 63 = _ := zk1 (hI 63);have e64 : X 64 = _ := zk1 (hI 64);have e65 : X 65 = _ := zk1 (hI 65);have e66 : X 66 = _ := zk1 (hI 66);have e67 : X 67 = _ := zk1 (hI 67);have e68 : X 68 = _ := zk1 (hI 68);have e69 : X 69 = _ := zk1 (hI 69);have e70 : X 70 = _ := zk1 (hI 70);have e71 : X 71 = _ := zk1 (hI 71);have e72 : X 72 = _ := zk1 (hI 72);clear hI;simp only [overF,List.foldl_cons,List.foldl_nil,List.setIfInBounds_toArray,List.set_cons_succ,List.set_cons_zero,e63,e64,e65,e66,e67,e68,e69,e70,e71,e72];have hx9 : Ext W14 w' := hph;have HE15 := hide (HE14.out.trans hx9);have HEJ15 := hide (HEJ14.out.trans hx9);clear hph hx9 e63 e64 e65 e66 e67 e68 e69 e70 e71 e72;generalize w' = W15 at *;have HZ := hide (HX.out.trans HE15.out);go_wp2;go_ret
        exact ⟨by rw [HRF.out]; rfl,HZ.out⟩
      | true =>
       cases wb with
       | true =>
        have HRF := hide (HFL.out rfl)
        go_upto_region 15 with (fail)
        refine wp_region_ro 89 [63,64,65,66,67,68,69,70,71,72] (fun w' => Ext W14 w') (fun (t : Nat) (wI : World) (v : Value) => match t with | 63 => v = (.bool true) | 64 => v = (.bool false) | 65 => v = (.bool false) | 66 => v = (.agg (encC c).toArray) | 67 => v = (.slice (some ⟨ga,0,none⟩) A.length ac) | 68 => v = (.int .i64 (i : Int)) | 69 => v = (.pointer (some ⟨ga,i,none⟩)) | 70 => v = (.int .i64 x) | 71 => v = (.bool true) | 72 => v = (.bool true) | _ => True) (by kernel_rfl) rfl (by kernel_rfl) (by kernel_rfl) (by kernel_rfl) ?_ ?_ ?_ ?_ ?_
        ·intro t w' w'' v hR hv;exact hv
        ·intro w' w'' h e;exact Ext.trans (show Ext _ w' from h) e
        ·exact zb.drew
        ·intro i o ho X w' hph hI hF K hK;have hin : i < 10 := (zg ho);rcases zo hin with rfl | rfl | rfl | rfl | rfl | rfl | rfl | rfl | rfl | rfl
         all_goals first | (exact absurd hmi (by decide)) | (obtain rfl := Option.some.inj ho; unfold wpOp; simp only [ho]; rw [if_pos (by rfl)]; left; rw [frame89]) | (obtain rfl := Option.some.inj ho; have e65 : X 65 = _ := zk1 (hI 65); unfold wpOp; simp only [ho]; rw [frame89]; simp only [e65]; rw [if_pos (by rfl)]; left)
         ·have e11 : X 11 = (.bool true) := hF 11 (by kernel_rfl);go_simp;refine zm1 hK ((.bool true)) ?_;simp [frame89,Act.put, *]
         ·have e63 : X 63 = _ := zk1 (hI 63);go_simp;refine zm1 hK ((.bool false)) ?_;simp [frame89,Act.put, *]
         ·have e64 : X 64 = _ := zk1 (hI 64);go_simp;refine zm1 hK ((.bool false)) ?_;simp [frame89,Act.put, *]
         ·have e2 : X 2 = (.pointer (some ⟨b2,0,none⟩)) := hF 2 (by kernel_rfl);have hx : Ext W w' := HE14.out.trans hph;refine wp_load_mid 30 (.tmp 2) rfl b2 0 e2 (encC c) cd (BoxC.range (HBX.out w' hx)) hcd1 hcd2 Tryz.confSize (metK (hK.out (.agg (encC c).toArray) _ zb (fun d hd => by cases hd; exact rfl)) ?_);simp [frame89,Act.put, *]
         ·have e9 : X 9 = (.slice (some ⟨ga,0,none⟩) A.length ac) := hF 9 (by kernel_rfl);go_simp;refine zm1 hK ((.slice (some ⟨ga,0,none⟩) A.length ac)) ?_;simp [frame89,Act.put, *]
         ·have e10 : X 10 = (.int .i64 (i : Int)) := hF 10 (by kernel_rfl);go_simp;refine zm1 hK ((.int .i64 (i : Int))) ?_;simp [frame89,Act.put, *]
         ·have e67 : X 67 = _ := zk1 (hI 67);have e68 : X 68 = _ := zk1 (hI 68);go_simp;refine zm1 hK ((.pointer (some ⟨ga,i,none⟩))) ?_;simp [frame89,Act.put, *]
         ·have e69 : X 69 = _ := zk1 (hI 69);have hx : Ext W w' := HE14.out.trans hph;have q1 := HXC14.out w' hph;go_simp;refine zm1 hK ((.int .i64 x)) ?_;simp [frame89,Act.put, *]
         ·have e66 : X 66 = _ := zk1 (hI 66);have e70 : X 70 = _ := zk1 (hI 70);have hx : Ext W w' := HE14.out.trans hph;go_simp;refine (HWI.out w' hx).mono ?_;rintro e w9 ⟨rfl,E9⟩;refine metK (hK.out (.bool true) w9 E9 (fun d hd => by cases hd; exact rfl)) ?_;simp [frame89,Act.put, *]
         ·have e65 : X 65 = _ := zk1 (hI 65);have e71 : X 71 = _ := zk1 (hI 71);go_simp;refine zm1 hK ((.bool true)) ?_;simp [frame89,Act.put, *]
        ·intro X w' hph hI;have e63 : X 63 = _ := zk1 (hI 63);have e64 : X 64 = _ := zk1 (hI 64);have e65 : X 65 = _ := zk1 (hI 65);have e66 : X 66 = _ := zk1 (hI 66);have e67 : X 67 = _ := zk1 (hI 67);have e68 : X 68 = _ := zk1 (hI 68);have e69 : X 69 = _ := zk1 (hI 69);have e70 : X 70 = _ := zk1 (hI 70);have e71 : X 71 = _ := zk1 (hI 71);have e72 : X 72 = _ := zk1 (hI 72);clear hI;simp only [overF,List.foldl_cons,List.foldl_nil,List.setIfInBounds_toArray,List.set_cons_succ,List.set_cons_zero,e63,e64,e65,e66,e67,e68,e69,e70,e71,e72];have hx9 : Ext W14 w' := hph;have HE15 := hide (HE14.out.trans hx9);have HEJ15 := hide (HEJ14.out.trans hx9);clear hph hx9 e63 e64 e65 e66 e67 e68 e69 e70 e71 e72;generalize w' = W15 at *;have HZ := hide (HX.out.trans HE15.out);go_wp2;go_ret
         exact ⟨by rw [HRF.out]; rfl,HZ.out⟩
       | false =>
        have HGN := hide (HGD.out rfl)
        go_upto_region 15 with (fail)
        refine wp_region_ro 89 [63,64,65,66,67,68,69,70,71,72] (fun w' => Ext W14 w') (fun (t : Nat) (wI : World) (v : Value) => match t with | 63 => v = (.bool true) | 64 => v = (.bool false) | 65 => v = (.bool false) | 66 => v = (.agg (encC c).toArray) | 67 => v = (.slice (some ⟨ga,0,none⟩) A.length ac) | 68 => v = (.int .i64 (i : Int)) | 69 => v = (.pointer (some ⟨ga,i,none⟩)) | 70 => v = (.int .i64 x) | 71 => v = (.bool false) | 72 => v = (.bool false) | _ => True) (by kernel_rfl) rfl (by kernel_rfl) (by kernel_rfl) (by kernel_rfl) ?_ ?_ ?_ ?_ ?_
        ·intro t w' w'' v hR hv;exact hv
        ·intro w' w'' h e;exact Ext.trans (show Ext _ w' from h) e
        ·exact zb.drew
        ·intro i o ho X w' hph hI hF K hK;have hin : i < 10 := (zg ho);rcases zo hin with rfl | rfl | rfl | rfl | rfl | rfl | rfl | rfl | rfl | rfl
         all_goals first | (exact absurd hmi (by decide)) | (obtain rfl := Option.some.inj ho; unfold wpOp; simp only [ho]; rw [if_pos (by rfl)]; left; rw [frame89]) | (obtain rfl := Option.some.inj ho; have e65 : X 65 = _ := zk1 (hI 65); unfold wpOp; simp only [ho]; rw [frame89]; simp only [e65]; rw [if_pos (by rfl)]; left)
         ·have e11 : X 11 = (.bool true) := hF 11 (by kernel_rfl);go_simp;refine zm1 hK ((.bool true)) ?_;simp [frame89,Act.put, *]
         ·have e63 : X 63 = _ := zk1 (hI 63);go_simp;refine zm1 hK ((.bool false)) ?_;simp [frame89,Act.put, *]
         ·have e64 : X 64 = _ := zk1 (hI 64);go_simp;refine zm1 hK ((.bool false)) ?_;simp [frame89,Act.put, *]
         ·have e2 : X 2 = (.pointer (some ⟨b2,0,none⟩)) := hF 2 (by kernel_rfl);have hx : Ext W w' := HE14.out.trans hph;refine wp_load_mid 30 (.tmp 2) rfl b2 0 e2 (encC c) cd (BoxC.range (HBX.out w' hx)) hcd1 hcd2 Tryz.confSize (metK (hK.out (.agg (encC c).toArray) _ zb (fun d hd => by cases hd; exact rfl)) ?_);simp [frame89,Act.put, *]
         ·have e9 : X 9 = (.slice (some ⟨ga,0,none⟩) A.length ac) := hF 9 (by kernel_rfl);go_simp;refine zm1 hK ((.slice (some ⟨ga,0,none⟩) A.length ac)) ?_;simp [frame89,Act.put, *]
         ·have e10 : X 10 = (.int .i64 (i : Int)) := hF 10 (by kernel_rfl);go_simp;refine zm1 hK ((.int .i64 (i : Int))) ?_;simp [frame89,Act.put, *]
         ·have e67 : X 67 = _ := zk1 (hI 67);have e68 : X 68 = _ := zk1 (hI 68);go_simp;refine zm1 hK ((.pointer (some ⟨ga,i,none⟩))) ?_;simp [frame89,Act.put, *]
         ·have e69 : X 69 = _ := zk1 (hI 69);have hx : Ext W w' := HE14.out.trans hph;have q1 := HXC14.out w' hph;go_simp;refine zm1 hK ((.int .i64 x)) ?_;simp [frame89,Act.put, *]
         ·have e66 : X 66 = _ := zk1 (hI 66);have e70 : X 70 = _ := zk1 (hI 70);have hx : Ext W w' := HE14.out.trans hph;go_simp;refine (HWI.out w' hx).mono ?_;rintro e w9 ⟨rfl,E9⟩;refine metK (hK.out (.bool false) w9 E9 (fun d hd => by cases hd; exact rfl)) ?_;simp [frame89,Act.put, *]
         ·have e65 : X 65 = _ := zk1 (hI 65);have e71 : X 71 = _ := zk1 (hI 71);go_simp;refine zm1 hK ((.bool false)) ?_;simp [frame89,Act.put, *]
        ·intro X w' hph hI;have e63 : X 63 = _ := zk1 (hI 63);have e64 : X 64 = _ := zk1 (hI 64);have e65 : X 65 = _ := zk1 (hI 65);have e66 : X 66 = _ := zk1 (hI 66);have e67 : X 67 = _ := zk1 (hI 67);have e68 : X 68 = _ := zk1 (hI 68);have e69 : X 69 = _ := zk1 (hI 69);have e70 : X 70 = _ := zk1 (hI 70);have e71 : X 71 = _ := zk1 (hI 71);have e72 : X 72 = _ := zk1 (hI 72);clear hI;simp only [overF,List.foldl_cons,List.foldl_nil,List.setIfInBounds_toArray,List.set_cons_succ,List.set_cons_zero,e63,e64,e65,e66,e67,e68,e69,e70,e71,e72];have hx9 : Ext W14 w' := hph;have HE15 := hide (HE14.out.trans hx9);have HEJ15 := hide (HEJ14.out.trans hx9);clear hph hx9 e63 e64 e65 e66 e67 e68 e69 e70 e71 e72;generalize w' = W15 at *;go_wp2
         go_roundw
         case rel => exact ⟨i + 1,hlt,by go_num,HGN.out,HEJ15.out⟩
         case measure => simp [intOf] <;> omega
    ·obtain rfl : i = A.length := (by omega);have hltz : ¬ (A.length : Int) < A.length := (by omega);have hgr := HGR.out;rw [List.take_length] at hgr;have HG2 := hide hgr;have hbx := HBX.out wr HEW.out;obtain ⟨W4,rfl⟩ : ∃ x : World,x = wr := ⟨_,rfl⟩;clear hgr HGR HROW
     go_wp2_with (first | (refine BigFrame.wpList_want (by rfl) fun K hK => ?_; refine wp_load_mid 30 (.tmp 2) rfl b2 0 rfl (encC c) cd hbx.range hcd1 hcd2 Tryz.confSize ?_; refine hK _ _ ?_; simp only [Act.put]))
     refine (HCOP.out W4 (HX.out.trans HEW.out)).mono ?_;rintro e W5 ⟨v5,rfl,ho5,E5⟩;obtain ⟨ca,cc,rfl⟩ := owns_shape ho5;have HROW := hide ho5;have HE5 := hide (HEW.out.trans E5);clear ho5 E5 hbx HCOP HEJ HEW hltz
     go_wp2_with fail
     go_loopw [12] (fun v12 wr => ∃ i : Nat,i <= C.length /\ v12 = .int .i64 i /\ (∀ id ∈ C.take i,WB id = false) /\ Ext W5 wr) (fun i _ => C.length - (intOf i).toNat)
     case atStart => exact ⟨0,Nat.zero_le _,rfl,fun r hr => by simp at hr,zb⟩
     case round =>
      obtain ⟨i,hi,rfl,hgr,hext⟩ := hrel;have HEJ := hide hext;have HEW := hide (HE5.out.trans hext);have HGR := hide hgr;clear hext hgr;by_cases hlt : i < C.length
      ·have hltz : (i : Int) < C.length := (by omega);have hwi : IntKind.i64.wrap ((i : Int) + 1) = ((i + 1 : Nat) : Int) := (by have := HAC.out; rw [IntKind.wrap_i64]; omega);obtain ⟨gc,cap,hgv,-⟩ := owns_block HROW.out (by omega);injection hgv with h1 h2 h3;subst h1;obtain ⟨bq,oq,eq,-,hxc⟩ := ints_row (Sl.of_own' (enc := encI) (fun _ => rfl) HROW.out : Ints W5 (.slice (some ⟨gc,0,none⟩) C.length cc) C) i hlt;cases eq;rw [Nat.zero_add] at hxc;have hfl := HF3.out C[i] (List.getElem_mem hlt)
       have hgd : WB C[i] = false -> ∀ id ∈ C.take (i + 1),WB id = false := fun h id hid => by
        rw [take_snoc C i hlt] at hid;rcases List.mem_append.1 hid with hid | hid
        ·exact HGR.out id hid
        ·rw [List.mem_singleton.1 hid];exact h
       have hwi2 := HWIB.out C[i];generalize C[i] = x at hxc hfl hgd hwi2;generalize WB x = wb at hfl hgd hwi2;have HFL := hide hfl;have HGD := hide hgd;have HWI := hide (fun X (hX : Ext W X) => hwi2 X (HX.out.trans hX));have HXC := hide (fun X (hX : Ext wr X) => cell_ext (HEJ.out.trans hX) hxc);clear hfl hgd hwi2 hxc h2 h3
       go_upto_region 21 with (fail)
       refine wp_region_ro 89 [82,83,84,85,86,87] (fun w' => Ext wr w') (fun (t : Nat) (wI : World) (v : Value) => match t with | 82 => v = (.agg (encC c).toArray) | 83 => v = (.slice (some ⟨gc,0,none⟩) C.length cc) | 84 => v = (.int .i64 (i : Int)) | 85 => v = (.pointer (some ⟨gc,i,none⟩)) | 86 => v = (.int .i64 x) | 87 => v = (.bool wb) | _ => True) (by kernel_rfl) rfl (by kernel_rfl) (by kernel_rfl) (by kernel_rfl) ?_ ?_ ?_ ?_ ?_
       ·intro t w' w'' v hR hv;exact hv
       ·intro w' w'' h e;exact Ext.trans (show Ext _ w' from h) e
       ·exact zb.drew
       ·intro i o ho X w' hph hI hF K hK;have hin : i < 6 := (zg ho);rcases zo hin with rfl | rfl | rfl | rfl | rfl | rfl
        all_goals first | (exact absurd hmi (by decide)) | (obtain rfl := Option.some.inj ho; unfold wpOp; simp only [ho]; rw [if_pos (by rfl)]; left; rw [frame89])
        ·have e2 : X 2 = (.pointer (some ⟨b2,0,none⟩)) := hF 2 (by kernel_rfl);have hx : Ext W w' := HEW.out.trans hph;refine wp_load_mid 30 (.tmp 2) rfl b2 0 e2 (encC c) cd (BoxC.range (HBX.out w' hx)) hcd1 hcd2 Tryz.confSize (metK (hK.out (.agg (encC c).toArray) _ zb (fun d hd => by cases hd; exact rfl)) ?_);simp [frame89,Act.put, *]
        ·have e9 : X 9 = (.slice (some ⟨gc,0,none⟩) C.length cc) := hF 9 (by kernel_rfl);go_simp;refine zm1 hK ((.slice (some ⟨gc,0,none⟩) C.length cc)) ?_;simp [frame89,Act.put, *]
        ·have e12 : X 12 = (.int .i64 (i : Int)) := hF 12 (by kernel_rfl);go_simp;refine zm1 hK ((.int .i64 (i : Int))) ?_;simp [frame89,Act.put, *]
        ·have e83 : X 83 = _ := zk1 (hI 83);have e84 : X 84 = _ := zk1 (hI 84);go_simp;refine zm1 hK ((.pointer (some ⟨gc,i,none⟩))) ?_;simp [frame89,Act.put, *]
        ·have e85 : X 85 = _ := zk1 (hI 85);have hx : Ext W w' := HEW.out.trans hph;have q1 := HXC.out w' hph;go_simp;refine zm1 hK ((.int .i64 x)) ?_;simp [frame89,Act.put, *]
        ·have e82 : X 82 = _ := zk1 (hI 82);have e86 : X 86 = _ := zk1 (hI 86);have hx : Ext W w' := HEW.out.trans hph;go_simp;refine (HWI.out w' hx).mono ?_;rintro e w9 ⟨rfl,E9⟩;refine metK (hK.out (.bool wb) w9 E9 (fun d hd => by cases hd; exact rfl)) ?_;simp [frame89,Act.put, *]
       ·intro X w' hph hI;have e82 : X 82 = _ := zk1 (hI 82);have e83 : X 83 = _ := zk1 (hI 83);have e84 : X 84 = _ := zk1 (hI 84);have e85 : X 85 = _ := zk1 (hI 85);have e86 : X 86 = _ := zk1 (hI 86);have e87 : X 87 = _ := zk1 (hI 87);clear hI;simp only [overF,List.foldl_cons,List.foldl_nil,List.setIfInBounds_toArray,List.set_cons_succ,List.set_cons_zero,e82,e83,e84,e85,e86,e87];have hx9 : Ext wr w' := hph;have HE9 := hide (HEJ.out.trans hx9);have HZ := hide (HX.out.trans (HEW.out.trans hx9));clear hph hx9 e82 e83 e84 e85 e86;generalize w' = W9 at *
        cases wb with
        | true =>
         have HRF := hide (HFL.out rfl);go_wp2;go_ret
         exact ⟨by rw [HRF.out]; rfl,HZ.out⟩
        | false =>
         have HGN := hide (HGD.out rfl);go_wp2
         go_roundw
         case rel => exact ⟨i + 1,hlt,by go_num,HGN.out,HE9.out⟩
         case measure => simp [intOf] <;> omega
      ·obtain rfl : i = C.length := (by omega);have hltz : ¬ (C.length : Int) < C.length := (by omega);have hgr := HGR.out;rw [List.take_length] at hgr;have HRR := hide ((HF4.out HG1.out HG2.out hgr).trans HO1.out.symm);have HZ := hide (HX.out.trans HEW.out);clear hgr;go_wp2;go_ret;exact ⟨by rw [HRR.out]; rfl,HZ.out⟩
end Go.Proofs.YtceaeiaoanhlnaaGreatDoor
