import Derived.Test.YtceaeiaoanhlnaaGreatDoorGrJ
set_option maxRecDepth 100000
set_option maxHeartbeats 32000000
namespace Go.Proofs.YtceaeiaoanhlnaaGreatDoor
open Go.ChangeShapes Go.WideShapes Go.ChangeAt Go.RowKit Go.Lib Go.Shelf
theorem fine_circle {c : ConfD} {ps : List ByteArray} (h : ∀ q ∈ ps,fineB c q = true) : circleB c ps = false := by
 rw [Bool.eq_false_iff];intro hc;obtain ⟨q,hq,hw⟩ := List.any_eq_true.1 hc;obtain ⟨id,hid,hb⟩ := List.any_eq_true.1 hw;have := h q hq;simp only [fineB,Bool.and_eq_true,List.all_eq_true] at this;rcases List.mem_append.1 hid with hi | hi
 ·have := (this.2.1 id hi).2;rw [hb] at this;cases this
 ·have := this.2.2.1 id hi;rw [hb] at this;cases this
theorem all_neg {α : Type} {f : α -> Bool} {l : List α} {x : α} (hx : x ∈ l) (hf : f x = false) : l.all f = false := by
 rw [Bool.eq_false_iff];intro ha;have := List.all_eq_true.1 ha x hx;rw [hf] at this;cases this
theorem frame106 (x : Nat -> Value) : frameOf 106 x = #[x 0,x 1,x 2,x 3,x 4,x 5,x 6,x 7,x 8,x 9,x 10,x 11,x 12,x 13,x 14,x 15,x 16,x 17,x 18,x 19,x 20,x 21,x 22,x 23,x 24,x 25,x 26,x 27,x 28,x 29,x 30,x 31,x 32,x 33,x 34,x 35,x 36,x 37,x 38,x 39,x 40,x 41,x 42,x 43,x 44,x 45,x 46,x 47,x 48,x 49,x 50,x 51,x 52,x 53,x 54,x 55,x 56,x 57,x 58,x 59,x 60,x 61,x 62,x 63,x 64,x 65,x 66,x 67,x 68,x 69,x 70,x 71,x 72,x 73,x 74,x 75,x 76,x 77,x 78,x 79,x 80,x 81,x 82,x 83,x 84,x 85,x 86,x 87,x 88,x 89,x 90,x 91,x 92,x 93,x 94,x 95,x 96,x 97,x 98,x 99,x 100,x 101,x 102,x 103,x 104,x 105] := rfl
theorem ralone_any (c : ConfD) (p : ByteArray) (w : World) (h : GC w c) (hp : SzB p) :
  Calls Tryz.prog 21 #[.agg (encC c).toArray,.string p] w fun e w' => e = .returned (.tuple #[.int .i64 (aloneC c p).1,.bool (aloneC c p).2]) /\ Ext w w' := by
 obtain ⟨cd,hcd1,hcd2⟩ := Tryz.confDesc;have hx : Ext w (w.alloc (.cells (encC c).toArray 30)) := za;have hb1 : BoxC (w.alloc (.cells (encC c).toArray 30)) w.heap.size c := heap_alloc_new w (.cells (encC c).toArray 30);have hwa := fun X (hX : Ext w X) => rway_any c p X (h.ext hX) hp;have hyz := way_sz h hp
 have hyl : (wayC c [p]).length <= 41 := by
  have h1 := (way_spec (nbP c) ([p] ++ allK c) ([p] ++ allK c).length [p] _ 0 (WaySt.start (nbP c) [p]) (fun p hp => List.mem_append_left _ hp) (fun a x hx => List.mem_append_right _ (nbP_all c a x hx)) (by omega)).len ([p] ++ allK c) (fun p hp => List.mem_append_left _ hp) (fun a x hx => List.mem_append_right _ (nbP_all c a x hx));have h2 := allK_lenR h.chk;have h3 : ([p] ++ allK c).length = 1 + (allK c).length := by simp; omega
  exact Nat.le_trans h1 (by omega)
 have hfi := fun (q : ByteArray) (hq : q ∈ wayC c [p]) X (hX : Ext w X) => rfine_any c q X (h.ext hX) (hyz q hq);have hon := fun (q : ByteArray) (hq : q ∈ wayC c [p]) X (hX : Ext w X) => ron_any c.R q c.rv X (h.ext hX).r (h.ext hX).rk (chk_paths h.chk h.fit) (hyz q hq) (by have := chk_R h.chk; omega);have hti0 := fun (hd : Deep c (c.S.length + 1) p) X (hX : Ext w X) => rTime_any c (c.S.length + 1) p X (h.ext hX) hp hd;have hdeep : (∀ q ∈ wayC c [p],fineB c q = true) -> Deep c (c.S.length + 1) p := fun hf => deep_alone h.chk (fine_circle hf);have hca := fun (id : Int) X (hX : Ext w X) => rcalls_any c p id X (h.ext hX) hp;have hru := (h.ext hx).r;have hsr := (h.ext hx).s;have hrl := chk_R h.chk;have hsl := chk_S h.chk;have hnu := chk_num h.chk;obtain ⟨_,ra,rcc,hrv⟩ := hru.shape;rw [hrv] at hru;simp only [hrv] at hon;obtain ⟨_,sa,sc,hsv⟩ := hsr.shape;rw [hsv] at hsr;have hT := alone_eq c p;have hTM : timeF c (c.S.length + 1) p = timeC c p := rfl;obtain ⟨R,hR⟩ : ∃ R,aloneC c p = R := ⟨_,rfl⟩;rw [hR] at hT ⊢;simp only [hTM] at hti0;clear hTM
 have hr1 : ∀ q ∈ wayC c [p],fineB c q = false -> R = (0,false) := fun q hq hf => by
  rw [<- hT];unfold aloneR;rw [if_pos (all_neg hq hf)]
 have hr2 : (∀ q ∈ wayC c [p],fineB c q = true) -> ∀ q ∈ wayC c [p],∀ r ∈ onR c.R q,r.q0 < timeC c p -> R = (0,false) := fun h1 q hq r hr hlt => by
  rw [<- hT];unfold aloneR;rw [if_neg (by rw [List.all_eq_true.2 h1]; decide),if_pos (all_neg hq (all_neg hr (decide_eq_false (by omega))))]
 have hr3 : (∀ q ∈ wayC c [p],fineB c q = true) -> (∀ q ∈ wayC c [p],∀ r ∈ onR c.R q,timeC c p <= r.q0) -> ∀ s ∈ c.S,roomS c p s = false -> R = (0,false) := fun h1 h2 s hs hf => by
  rw [<- hT];unfold aloneR;rw [if_neg (by rw [List.all_eq_true.2 h1]; decide),if_neg (by rw [List.all_eq_true.2 fun q hq => List.all_eq_true.2 fun r hr => decide_eq_true (h2 q hq r hr)]; decide),if_pos (show roomB c p = false from all_neg hs hf)]
 have hr4 : (∀ q ∈ wayC c [p],fineB c q = true) -> (∀ q ∈ wayC c [p],∀ r ∈ onR c.R q,timeC c p <= r.q0) -> (∀ s ∈ c.S,roomS c p s = true) -> R = if c.life < timeC c p then (0,false) else (timeC c p,true) := fun h1 h2 h3 => by
  rw [<- hT];unfold aloneR;rw [if_neg (by rw [List.all_eq_true.2 h1]; decide),if_neg (by rw [List.all_eq_true.2 fun q hq => List.all_eq_true.2 fun r hr => decide_eq_true (h2 q hq r hr)]; decide),if_neg (by rw [show roomB c p = true from List.all_eq_true.2 h3]; decide)]
 have hrs : ∀ s,roomS c p s = (decide (callsN c p s.id <= s.queue) && decide (callsN c p s.id <= c.low + c.wait)) := fun s => rfl;generalize wayC c [p] = Y at hwa hyz hyl hfi hon hdeep hr1 hr2 hr3 hr4;generalize timeC c p = tm at hti0 hr2 hr3 hr4;generalize fineB c = FB at hfi hdeep hr1 hr2 hr3 hr4;generalize callsN c p = CN at hca hrs;generalize roomS c p = RS at hr3 hr4 hrs;have HWA := hide hwa;have HYL := hide hyl;have HFIB := hide hfi;have HONB := hide hon;have HTI0 := hide hti0;have HDEEP := hide hdeep;have HCAB := hide hca;have HRL := hide hrl;have HSLN := hide hsl;have HNU := hide hnu;have HRV := hide hrv;have HSVE := hide hsv;have HR1 := hide hr1;have HR2 := hide hr2;have HR3 := hide hr3;have HR4 := hide hr4;have HRS := hide hrs;clear hwa hyl hyz hfi hon hti0 hdeep hca hrl hsl hnu hrv hsv hr1 hr2 hr3 hr4 hrs hT hR h hp
 go_enter Tryz.func21,Tryz.ntmps21
 go_upto_region 1 with (fail)
 show Code.wp _ _ _ _ (w.alloc (.cells (encC c).toArray 30));generalize w.alloc (.cells (encC c).toArray 30) = W at hx hb1 hru hsr ⊢;obtain ⟨b2,hbn⟩ : ∃ b,w.heap.size = b := ⟨_,rfl⟩;rw [hbn] at hb1 ⊢;have HX := hide hx;have HBX := hide (fun X (hX : Ext W X) => BoxC.ext hb1 hX);clear hx hb1 hbn;have HRU := hide hru;have HSR := hide hsr;have HCR := hide (fun X (hX : Ext W X) => (by have := (HBX.out X hX).cell 2 _ (show (encC c)[2]? = some c.rv from rfl); rw [HRV.out] at this; exact this : X.cell? ⟨b2,2,none⟩ = some (.slice ra c.R.length rcc)));have HCS0 := hide (fun X (hX : Ext W X) => (by have := (HBX.out X hX).cell 0 _ (show (encC c)[0]? = some c.sv from rfl); rw [HSVE.out] at this; exact this : X.cell? ⟨b2,0,none⟩ = some (.slice sa c.S.length sc)));have HLO := hide (fun X (hX : Ext W X) => (HBX.out X hX).cell 12 (.int .i64 c.low) rfl);have HWT := hide (fun X (hX : Ext W X) => (HBX.out X hX).cell 14 (.int .i64 c.wait) rfl);have HLF := hide (fun X (hX : Ext W X) => (HBX.out X hX).cell 16 (.int .i64 c.life) rfl);have HWL := hide (show IntKind.i64.wrap (c.low + c.wait) = c.low + c.wait by have := HNU.out; rw [IntKind.wrap_i64]; omega);have hbx := HBX.out W zb;clear hru hsr
 go_wp2_with (first | (refine BigFrame.wpList_want (by rfl) fun K hK => ?_; refine wp_load_mid 30 (.tmp 2) rfl b2 0 rfl (encC c) cd hbx.range hcd1 hcd2 Tryz.confSize ?_; refine hK _ _ ?_; simp only [Act.put]))
 refine (HWA.out W HX.out).mono ?_;rintro e W1 ⟨v1,rfl,ho1,E1⟩;obtain ⟨ya,yc,rfl⟩ := owns_shape ho1;have HROW := hide ho1;have HE1 := hide E1;clear ho1 E1 hbx HWA
 go_wp2_with fail
 go_loopw [7] (fun v7 wr => ∃ i : Nat,i <= Y.length /\ v7 = .int .i64 i /\ (∀ q ∈ Y.take i,FB q = true) /\ Ext W1 wr) (fun i _ => Y.length - (intOf i).toNat)
 case atStart => exact ⟨0,Nat.zero_le _,rfl,fun r hr => by simp at hr,zb⟩
 case round =>
  obtain ⟨i,hi,rfl,hgr,hext⟩ := hrel;have HEJ := hide hext;have HEW := hide (HE1.out.trans hext);have HGR := hide hgr;clear hext hgr;by_cases hlt : i < Y.length
  ·have hltz : (i : Int) < Y.length := (by omega);have hwi : IntKind.i64.wrap ((i : Int) + 1) = ((i + 1 : Nat) : Int) := (by have := HYL.out; rw [IntKind.wrap_i64]; omega);obtain ⟨gy,cap,hgv,-⟩ := owns_block HROW.out (by omega);injection hgv with h1 h2 h3;subst h1;obtain ⟨bq,oq,eq,-,hyc⟩ := strs_row (Sl.of_own' (enc := encS) (fun _ => rfl) HROW.out : Strs W1 (.slice (some ⟨gy,0,none⟩) Y.length yc) Y) i hlt;cases eq;rw [Nat.zero_add] at hyc;have hfl := HR1.out Y[i] (List.getElem_mem hlt)
   have hgd : FB Y[i] = true -> ∀ q ∈ Y.take (i + 1),FB q = true := fun h q hq => by
    rw [take_snoc Y i hlt] at hq;rcases List.mem_append.1 hq with hq | hq
    ·exact HGR.out q hq
    ·rw [List.mem_singleton.1 hq];exact h
   have hfi := HFIB.out Y[i] (List.getElem_mem hlt);generalize Y[i] = q at hyc hfl hgd hfi;generalize FB q = fb at hfl hgd hfi;have HFL := hide hfl;have HGD := hide hgd;have HFI := hide (fun X (hX : Ext W X) => hfi X (HX.out.trans hX));have HYC := hide (fun X (hX : Ext wr X) => cell_ext (HEJ.out.trans hX) hyc);clear hfl hgd hfi hyc h2 h3
   go_upto_region 5 with (fail)
   refine wp_region_ro 106 [8,23,24,25,26,27,28] (fun w' => Ext wr w') (fun (t : Nat) (wI : World) (v : Value) => match t with | 8 => v = (.bool fb) | 23 => v = (.agg (encC c).toArray) | 24 => v = (.slice (some ⟨gy,0,none⟩) Y.length yc) | 25 => v = (.int .i64 (i : Int)) | 26 => v = (.pointer (some ⟨gy,i,none⟩)) | 27 => v = (.string q) | 28 => v = (.bool fb) | _ => True) (by kernel_rfl) rfl (by kernel_rfl) (by kernel_rfl) (by kernel_rfl) ?_ ?_ ?_ ?_ ?_
   ·intro t w' w'' v hR hv;exact hv
   ·intro w' w'' h e;exact Ext.trans (show Ext _ w' from h) e
   ·exact zb.drew
   ·intro i o ho X w' hph hI hF K hK;have hin : i < 7 := (zg ho);rcases zo hin with rfl | rfl | rfl | rfl | rfl | rfl | rfl
    all_goals first | (exact absurd hmi (by decide)) | (obtain rfl := Option.some.inj ho; unfold wpOp; simp only [ho]; rw [if_pos (by rfl)]; left; rw [frame106])
    ·have e2 : X 2 = (.pointer (some ⟨b2,0,none⟩)) := hF 2 (by kernel_rfl);have hx : Ext W w' := HEW.out.trans hph;refine wp_load_mid 30 (.tmp 2) rfl b2 0 e2 (encC c) cd (BoxC.range (HBX.out w' hx)) hcd1 hcd2 Tryz.confSize (metK (hK.out (.agg (encC c).toArray) _ zb (fun d hd => by cases hd; exact rfl)) ?_);simp [frame106,Act.put, *]
    ·have e6 : X 6 = (.slice (some ⟨gy,0,none⟩) Y.length yc) := hF 6 (by kernel_rfl);go_simp;refine zm1 hK ((.slice (some ⟨gy,0,none⟩) Y.length yc)) ?_;simp [frame106,Act.put, *]
    ·have e7 : X 7 = (.int .i64 (i : Int)) := hF 7 (by kernel_rfl);go_simp;refine zm1 hK ((.int .i64 (i : Int))) ?_;simp [frame106,Act.put, *]
    ·have e24 : X 24 = _ := zk1 (hI 24);have e25 : X 25 = _ := zk1 (hI 25);go_simp;refine zm1 hK ((.pointer (some ⟨gy,i,none⟩))) ?_;simp [frame106,Act.put, *]
    ·have e26 : X 26 = _ := zk1 (hI 26);have hx : Ext W w' := HEW.out.trans hph;have q1 := HYC.out w' hph;go_simp;refine zm1 hK ((.string q)) ?_;simp [frame106,Act.put, *]
    ·have e23 : X 23 = _ := zk1 (hI 23);have e27 : X 27 = _ := zk1 (hI 27);have hx : Ext W w' := HEW.out.trans hph;go_simp;refine (HFI.out w' hx).mono ?_;rintro e w9 ⟨rfl,E9⟩;refine metK (hK.out (.bool fb) w9 E9 (fun d hd => by cases hd; exact rfl)) ?_;simp [frame106,Act.put, *]
    ·have e28 : X 28 = _ := zk1 (hI 28);go_simp;refine zm1 hK ((.bool fb)) ?_;simp [frame106,Act.put, *]
   ·intro X w' hph hI;have e8 : X 8 = _ := zk1 (hI 8);have e23 : X 23 = _ := zk1 (hI 23);have e24 : X 24 = _ := zk1 (hI 24);have e25 : X 25 = _ := zk1 (hI 25);have e26 : X 26 = _ := zk1 (hI 26);have e27 : X 27 = _ := zk1 (hI 27);have e28 : X 28 = _ := zk1 (hI 28);clear hI;simp only [overF,List.foldl_cons,List.foldl_nil,List.setIfInBounds_toArray,List.set_cons_succ,List.set_cons_zero,e8,e23,e24,e25,e26,e27,e28];have hx9 : Ext wr w' := hph;have HE9 := hide (HEJ.out.trans hx9);have HZ := hide (HX.out.trans (HEW.out.trans hx9));clear hph hx9 e23 e24 e25 e26 e27 e28;generalize w' = W9 at *
    cases fb with
    | false =>
     have HRF := hide (HFL.out rfl);go_wp2;go_ret2
     exact ⟨by rw [HRF.out]; rfl,HZ.out⟩
    | true =>
     have HGN := hide (HGD.out rfl);go_wp2
     go_roundw
     case rel => exact ⟨i + 1,hlt,by go_num,HGN.out,HE9.out⟩
     case measure => simp [intOf] <;> omega
  ·obtain rfl : i = Y.length := (by omega);have hltz : ¬ (Y.length : Int) < Y.length := (by omega);have hgr := HGR.out;rw [List.take_length] at hgr;have HG1 := hide hgr;have hti := HTI0.out (HDEEP.out hgr);have HTI := hide (fun X (hX : Ext W X) => hti X (HX.out.trans hX));obtain ⟨W2,rfl⟩ : ∃ x : World,x = wr := ⟨_,rfl⟩;have HE2 := hide HEW.out;have HROW2 := hide (owns_ext HROW.out HEJ.out);clear hgr HGR hti HTI0 HDEEP HEJ HEW HROW
   go_wp2_with fail
   clear hltz
   go_loopw [9] (fun v9 wr => ∃ i : Nat,i <= Y.length /\ v9 = .int .i64 i /\ (∀ q ∈ Y.take i,∀ r ∈ onR c.R q,tm <= r.q0) /\ Ext W2 wr) (fun i _ => Y.length - (intOf i).toNat)
   case atStart => exact ⟨0,Nat.zero_le _,rfl,fun r hr => by simp at hr,zb⟩
   case round =>
    obtain ⟨i,hi,rfl,hgr,hext⟩ := hrel;have HEJ := hide hext;have HEW := hide (HE2.out.trans hext);have HGR := hide hgr;clear hext hgr;by_cases hlt : i < Y.length
    ·have hltz : (i : Int) < Y.length := (by omega);have hwi : IntKind.i64.wrap ((i : Int) + 1) = ((i + 1 : Nat) : Int) := (by have := HYL.out; rw [IntKind.wrap_i64]; omega);obtain ⟨gy,cap,hgv,-⟩ := owns_block HROW2.out (by omega);injection hgv with h1 h2 h3;subst h1;obtain ⟨bq,oq,eq,-,hyc⟩ := strs_row (Sl.of_own' (enc := encS) (fun _ => rfl) HROW2.out : Strs W2 (.slice (some ⟨gy,0,none⟩) Y.length yc) Y) i hlt;cases eq;rw [Nat.zero_add] at hyc;have hon := HONB.out Y[i] (List.getElem_mem hlt);have hoa := onL_at c.R Y[i];have hol := onRows_len c.R Y[i]
     have hll : (onR c.R Y[i]).length <= 20 := by
      have h1 := HRL.out; have h2 : (onR c.R Y[i]).length <= c.R.length := (by unfold onR; exact List.length_filter_le _ _);omega
     have hf2 : ∀ r ∈ onR c.R Y[i],r.q0 < tm -> R = (0,false) := fun r hr hlt2 => HR2.out HG1.out Y[i] (List.getElem_mem hlt) r hr hlt2
     have hgd : (∀ r ∈ onR c.R Y[i],tm <= r.q0) -> ∀ q ∈ Y.take (i + 1),∀ r ∈ onR c.R q,tm <= r.q0 := fun h q hq => by
      rw [take_snoc Y i hlt] at hq;rcases List.mem_append.1 hq with hq | hq
      ·exact HGR.out q hq
      ·rw [List.mem_singleton.1 hq];exact h
     generalize Y[i] = q at hyc hon hoa hol hll hf2 hgd;generalize onL c.R (bl q) c.R.length = O at hon hoa hol;generalize onR c.R q = M at hoa hol hll hf2 hgd;have HON := hide (fun X (hX : Ext W X) => hon X (HX.out.trans hX));have HOA := hide hoa;have HOL := hide hol;have HLL := hide hll;have HF2 := hide hf2;have HGD := hide hgd;have HYC := hide (fun X (hX : Ext wr X) => cell_ext (HEJ.out.trans hX) hyc);clear hon hoa hol hll hf2 hgd hyc h2 h3
     go_upto_region 11 with (fail)
     refine wp_region_ro 106 [10,37,38,39,40,41,42,43] (fun w' => Ext wr w') (fun (t : Nat) (wI : World) (v : Value) => match t with | 10 => ∃ a cc,v = .slice a O.length cc /\ Ints wI v O | 37 => v = (.pointer (some ⟨b2,2,none⟩)) | 38 => v = (.slice ra c.R.length rcc) | 39 => v = (.slice (some ⟨gy,0,none⟩) Y.length yc) | 40 => v = (.int .i64 (i : Int)) | 41 => v = (.pointer (some ⟨gy,i,none⟩)) | 42 => v = (.string q) | 43 => ∃ a cc,v = .slice a O.length cc /\ Ints wI v O | _ => True) (by kernel_rfl) rfl (by kernel_rfl) (by kernel_rfl) (by kernel_rfl) ?_ ?_ ?_ ?_ ?_
     ·intro t w' w'' v hR hv;split at hv <;> first | exact hv | (obtain ⟨a,cc,h1,h2⟩ := hv; exact ⟨a,cc,h1,h2.ext hR⟩)
     ·intro w' w'' h e;exact Ext.trans (show Ext _ w' from h) e
     ·exact zb.drew
     ·intro i o ho X w' hph hI hF K hK;have hin : i < 8 := (zg ho);rcases zo hin with rfl | rfl | rfl | rfl | rfl | rfl | rfl | rfl
      all_goals first | (exact absurd hmi (by decide)) | (obtain rfl := Option.some.inj ho; unfold wpOp; simp only [ho]; rw [if_pos (by rfl)]; left; rw [frame106])
      ·have e2 : X 2 = (.pointer (some ⟨b2,0,none⟩)) := hF 2 (by kernel_rfl);go_simp;refine zm1 hK ((.pointer (some ⟨b2,2,none⟩))) ?_;simp [frame106,Act.put, *]
      ·have e37 : X 37 = _ := zk1 (hI 37);have hx : Ext W w' := HEW.out.trans hph;have q1 := HCR.out w' hx;go_simp;refine zm1 hK ((.slice ra c.R.length rcc)) ?_;simp [frame106,Act.put, *]
      ·have e6 : X 6 = (.slice (some ⟨gy,0,none⟩) Y.length yc) := hF 6 (by kernel_rfl);go_simp;refine zm1 hK ((.slice (some ⟨gy,0,none⟩) Y.length yc)) ?_;simp [frame106,Act.put, *]
      ·have e9 : X 9 = (.int .i64 (i : Int)) := hF 9 (by kernel_rfl);go_simp;refine zm1 hK ((.int .i64 (i : Int))) ?_;simp [frame106,Act.put, *]
      ·have e39 : X 39 = _ := zk1 (hI 39);have e40 : X 40 = _ := zk1 (hI 40);go_simp;refine zm1 hK ((.pointer (some ⟨gy,i,none⟩))) ?_;simp [frame106,Act.put, *]
      ·have e41 : X 41 = _ := zk1 (hI 41);have hx : Ext W w' := HEW.out.trans hph;have q1 := HYC.out w' hph;go_simp;refine zm1 hK ((.string q)) ?_;simp [frame106,Act.put, *]
      ·have e38 : X 38 = _ := zk1 (hI 38);have e42 : X 42 = _ := zk1 (hI 42);have hx : Ext W w' := HEW.out.trans hph;go_simp;refine (HON.out w' hx).mono ?_;rintro e w9 ⟨u9,rfl,hi9,E9⟩;obtain ⟨-,ua,uc,rfl⟩ := hi9.shape;refine metK (hK.out (.slice ua O.length uc) w9 E9 (fun d hd => by cases hd; exact ⟨ua,uc,rfl,hi9⟩)) ?_;simp [frame106,Act.put, *]
      ·have y43 := zk1 (hI 43);obtain ⟨ua,uc,e43,hi9⟩ := y43;rw [e43] at hi9;go_simp;refine metK (hK.out (.slice ua O.length uc) w' zb (fun d hd => by cases hd; exact ⟨ua,uc,rfl,hi9⟩)) ?_;simp [frame106,Act.put, *]
     ·intro X w' hph hI;have y10 := zk1 (hI 10);have e37 : X 37 = _ := zk1 (hI 37);have e38 : X 38 = _ := zk1 (hI 38);have e39 : X 39 = _ := zk1 (hI 39);have e40 : X 40 = _ := zk1 (hI 40);have e41 : X 41 = _ := zk1 (hI 41);have e42 : X 42 = _ := zk1 (hI 42);have y43 := zk1 (hI 43);clear hI;simp only [overF,List.foldl_cons,List.foldl_nil,List.setIfInBounds_toArray,List.set_cons_succ,List.set_cons_zero,e37,e38,e39,e40,e41,e42];obtain ⟨oa,oc,hv10,hi10⟩ := y10;rw [hv10] at hi10;simp only [hv10];have hx9 : Ext wr w' := hph;have HE11 := hide (HEW.out.trans hx9);have HEJ11 := hide (HEJ.out.trans hx9);have HIO := hide hi10;clear hph hx9 hi10 hv10 y43 e37 e38 e39 e40 e41 e42;generalize X 43 = u43;generalize w' = W11 at *
      go_wp2_with fail
      go_loopw [11] (fun v11 wk => ∃ j : Nat,j <= M.length /\ v11 = .int .i64 j /\ (∀ r ∈ M.take j,tm <= r.q0) /\ Ext W11 wk) (fun j _ => M.length - (intOf j).toNat)
      case atStart => exact ⟨0,Nat.zero_le _,rfl,fun r hr => by simp at hr,zb⟩
      case round =>
       obtain ⟨j,hj,rfl,hgr,hext⟩ := hrel;have HEK := hide hext;have HEW := hide (HE11.out.trans hext);have HGR3 := hide hgr;clear hext hgr;have hjo : (O.length : Int) = M.length := (by rw [HOL.out]);by_cases hltj : j < M.length
       ·have hltjz : (j : Int) < O.length := (by omega);have hwj : IntKind.i64.wrap ((j : Int) + 1) = ((j + 1 : Nat) : Int) := (by have := HLL.out; rw [IntKind.wrap_i64]; omega);obtain ⟨k,hk,hoq,hmq⟩ := HOA.out j hltj;have hkz : (k : Int) < c.R.length := (by omega);have hjO : j < O.length := (by omega);obtain ⟨ib,io,rfl,-,hcq⟩ := ints_row HIO.out j hjO;rw [show O[j] = (k : Int) by have := (List.getElem?_eq_some_iff.1 hoq).2; exact this] at hcq;obtain ⟨rb,ro,rfl,-,hcell⟩ := rule_row HRU.out k hk;have hq0 := hcell 11 (.int .i64 c.R[k].q0) rfl;have hfl := HF2.out M[j] (List.getElem_mem hltj)
        have hgd : tm <= M[j].q0 -> ∀ r ∈ M.take (j + 1),tm <= r.q0 := fun h r hr => by
         rw [take_snoc M j hltj] at hr;rcases List.mem_append.1 hr with hr | hr
         ·exact HGR3.out r hr
         ·rw [List.mem_singleton.1 hr];exact h
        rw [hmq] at hfl hgd;generalize c.R[k].q0 = qq at hq0 hfl hgd;have HOC := hide (fun X (hX : Ext wr X) => cell_ext (HEK.out.trans hX) hcq);have HQC := hide (fun X (hX : Ext W X) => cell_ext hX hq0);clear hcq hcell hq0 hoq hmq;by_cases hgt : qq < tm
        ·have HGT := hide (decide_eq_true hgt);have HRF := hide (hfl hgt);clear hfl hgd
         go_upto_region 15 with (fail)
         refine wp_region_ro 106 [50,51,52,53,54,55,56,57,58,59,60,61,62,63] (fun w' => Ext wr w') (fun (t : Nat) (wI : World) (v : Value) => match t with | 50 => v = (.agg (encC c).toArray) | 51 => v = (.string p) | 52 => v = (.int .i64 tm) | 53 => v = (.pointer (some ⟨b2,2,none⟩)) | 54 => v = (.slice (some ⟨rb,ro,none⟩) c.R.length rcc) | 55 => v = (.slice (some ⟨ib,io,none⟩) O.length oc) | 56 => v = (.int .i64 (j : Int)) | 57 => v = (.pointer (some ⟨ib,io + j,none⟩)) | 58 => v = (.int .i64 (k : Int)) | 59 => v = (.pointer (some ⟨rb,ro + k * 19,none⟩)) | 60 => v = (.pointer (some ⟨rb,ro + k * 19 + 11,none⟩)) | 61 => v = (.pointer (some ⟨rb,ro + k * 19 + 11,none⟩)) | 62 => v = (.int .i64 qq) | 63 => v = (.bool true) | _ => True) (by kernel_rfl) rfl (by kernel_rfl) (by kernel_rfl) (by kernel_rfl) ?_ ?_ ?_ ?_ ?_
         ·intro t w' w'' v hR hv;exact hv
         ·intro w' w'' h e;exact Ext.trans (show Ext _ w' from h) e
         ·exact zb.drew
         ·intro i o ho X w' hph hI hF K hK;have hin : i < 14 := (zg ho);rcases zo hin with rfl | rfl | rfl | rfl | rfl | rfl | rfl | rfl | rfl | rfl | rfl | rfl | rfl | rfl
          all_goals first | (exact absurd hmi (by decide)) | (obtain rfl := Option.some.inj ho; unfold wpOp; simp only [ho]; rw [if_pos (by rfl)]; left; rw [frame106])
          ·have e2 : X 2 = (.pointer (some ⟨b2,0,none⟩)) := hF 2 (by kernel_rfl);have hx : Ext W w' := HEW.out.trans hph;refine wp_load_mid 30 (.tmp 2) rfl b2 0 e2 (encC c) cd (BoxC.range (HBX.out w' hx)) hcd1 hcd2 Tryz.confSize (metK (hK.out (.agg (encC c).toArray) _ zb (fun d hd => by cases hd; exact rfl)) ?_);simp [frame106,Act.put, *]
          ·have e1 : X 1 = (.string p) := hF 1 (by kernel_rfl);go_simp;refine zm1 hK ((.string p)) ?_;simp [frame106,Act.put, *]
          ·have e50 : X 50 = _ := zk1 (hI 50);have e51 : X 51 = _ := zk1 (hI 51);have hx : Ext W w' := HEW.out.trans hph;go_simp;refine (HTI.out w' hx).mono ?_;rintro e w9 ⟨rfl,E9⟩;refine metK (hK.out (.int .i64 tm) w9 E9 (fun d hd => by cases hd; exact rfl)) ?_;simp [frame106,Act.put, *]
          ·have e2 : X 2 = (.pointer (some ⟨b2,0,none⟩)) := hF 2 (by kernel_rfl);go_simp;refine zm1 hK ((.pointer (some ⟨b2,2,none⟩))) ?_;simp [frame106,Act.put, *]
          ·have e53 : X 53 = _ := zk1 (hI 53);have hx : Ext W w' := HEW.out.trans hph;have q1 := HCR.out w' hx;go_simp;refine zm1 hK ((.slice (some ⟨rb,ro,none⟩) c.R.length rcc)) ?_;simp [frame106,Act.put, *]
          ·have e10 : X 10 = (.slice (some ⟨ib,io,none⟩) O.length oc) := hF 10 (by kernel_rfl);go_simp;refine zm1 hK ((.slice (some ⟨ib,io,none⟩) O.length oc)) ?_;simp [frame106,Act.put, *]
          ·have e11 : X 11 = (.int .i64 (j : Int)) := hF 11 (by kernel_rfl);go_simp;refine zm1 hK ((.int .i64 (j : Int))) ?_;simp [frame106,Act.put, *]
          ·have e55 : X 55 = _ := zk1 (hI 55);have e56 : X 56 = _ := zk1 (hI 56);go_simp;refine zm1 hK ((.pointer (some ⟨ib,io + j,none⟩))) ?_;simp [frame106,Act.put, *]
          ·have e57 : X 57 = _ := zk1 (hI 57);have hx : Ext W w' := HEW.out.trans hph;have q1 := HOC.out w' hph;go_simp;refine zm1 hK ((.int .i64 (k : Int))) ?_;simp [frame106,Act.put, *]
          ·have e54 : X 54 = _ := zk1 (hI 54);have e58 : X 58 = _ := zk1 (hI 58);go_simp;refine zm1 hK ((.pointer (some ⟨rb,ro + k * 19,none⟩))) ?_;simp [frame106,Act.put, *]
          ·have e59 : X 59 = _ := zk1 (hI 59);go_simp;refine zm1 hK ((.pointer (some ⟨rb,ro + k * 19 + 11,none⟩))) ?_;simp [frame106,Act.put, *]
          ·have e60 : X 60 = _ := zk1 (hI 60);go_simp;refine zm1 hK ((.pointer (some ⟨rb,ro + k * 19 + 11,none⟩))) ?_;simp [frame106,Act.put, *]
          ·have e61 : X 61 = _ := zk1 (hI 61);have hx : Ext W w' := HEW.out.trans hph;have q1 := HQC.out w' hx;go_simp;refine zm1 hK ((.int .i64 qq)) ?_;simp [frame106,Act.put, *]
          ·have e52 : X 52 = _ := zk1 (hI 52);have e62 : X 62 = _ := zk1 (hI 62);have q1 := HGT.out;go_simp;refine zm1 hK ((.bool true)) ?_;simp [frame106,Act.put, *]
         ·intro X w' hph hI;have e50 : X 50 = _ := zk1 (hI 50);have e51 : X 51 = _ := zk1 (hI 51);have e52 : X 52 = _ := zk1 (hI 52);have e53 : X 53 = _ := zk1 (hI 53);have e54 : X 54 = _ := zk1 (hI 54);have e55 : X 55 = _ := zk1 (hI 55);have e56 : X 56 = _ := zk1 (hI 56);have e57 : X 57 = _ := zk1 (hI 57);have e58 : X 58 = _ := zk1 (hI 58);have e59 : X 59 = _ := zk1 (hI 59);have e60 : X 60 = _ := zk1 (hI 60);have e61 : X 61 = _ := zk1 (hI 61);have e62 : X 62 = _ := zk1 (hI 62);have e63 : X 63 = _ := zk1 (hI 63);clear hI;simp only [overF,List.foldl_cons,List.foldl_nil,List.setIfInBounds_toArray,List.set_cons_succ,List.set_cons_zero,e50,e51,e52,e53,e54,e55,e56,e57,e58,e59,e60,e61,e62,e63];have hx9 : Ext wr w' := hph;have HE9 := hide (HEK.out.trans hx9);have HZ := hide (HX.out.trans (HEW.out.trans hx9));clear hph hx9 e50 e51 e52 e53 e54 e55 e56 e57 e58 e59 e60 e61 e62 e63;generalize w' = W9 at *;go_wp2;go_ret2;exact ⟨by rw [HRF.out]; rfl,HZ.out⟩
        ·have HGT := hide (decide_eq_false hgt);have HGN := hide (hgd (by omega));clear hfl hgd
         go_upto_region 15 with (fail)
         refine wp_region_ro 106 [50,51,52,53,54,55,56,57,58,59,60,61,62,63] (fun w' => Ext wr w') (fun (t : Nat) (wI : World) (v : Value) => match t with | 50 => v = (.agg (encC c).toArray) | 51 => v = (.string p) | 52 => v = (.int .i64 tm) | 53 => v = (.pointer (some ⟨b2,2,none⟩)) | 54 => v = (.slice (some ⟨rb,ro,none⟩) c.R.length rcc) | 55 => v = (.slice (some ⟨ib,io,none⟩) O.length oc) | 56 => v = (.int .i64 (j : Int)) | 57 => v = (.pointer (some ⟨ib,io + j,none⟩)) | 58 => v = (.int .i64 (k : Int)) | 59 => v = (.pointer (some ⟨rb,ro + k * 19,none⟩)) | 60 => v = (.pointer (some ⟨rb,ro + k * 19 + 11,none⟩)) | 61 => v = (.pointer (some ⟨rb,ro + k * 19 + 11,none⟩)) | 62 => v = (.int .i64 qq) | 63 => v = (.bool false) | _ => True) (by kernel_rfl) rfl (by kernel_rfl) (by kernel_rfl) (by kernel_rfl) ?_ ?_ ?_ ?_ ?_
         ·intro t w' w'' v hR hv;exact hv
         ·intro w' w'' h e;exact Ext.trans (show Ext _ w' from h) e
         ·exact zb.drew
         ·intro i o ho X w' hph hI hF K hK;have hin : i < 14 := (zg ho);rcases zo hin with rfl | rfl | rfl | rfl | rfl | rfl | rfl | rfl | rfl | rfl | rfl | rfl | rfl | rfl
          all_goals first | (exact absurd hmi (by decide)) | (obtain rfl := Option.some.inj ho; unfold wpOp; simp only [ho]; rw [if_pos (by rfl)]; left; rw [frame106])
          ·have e2 : X 2 = (.pointer (some ⟨b2,0,none⟩)) := hF 2 (by kernel_rfl);have hx : Ext W w' := HEW.out.trans hph;refine wp_load_mid 30 (.tmp 2) rfl b2 0 e2 (encC c) cd (BoxC.range (HBX.out w' hx)) hcd1 hcd2 Tryz.confSize (metK (hK.out (.agg (encC c).toArray) _ zb (fun d hd => by cases hd; exact rfl)) ?_);simp [frame106,Act.put, *]
          ·have e1 : X 1 = (.string p) := hF 1 (by kernel_rfl);go_simp;refine zm1 hK ((.string p)) ?_;simp [frame106,Act.put, *]
          ·have e50 : X 50 = _ := zk1 (hI 50);have e51 : X 51 = _ := zk1 (hI 51);have hx : Ext W w' := HEW.out.trans hph;go_simp;refine (HTI.out w' hx).mono ?_;rintro e w9 ⟨rfl,E9⟩;refine metK (hK.out (.int .i64 tm) w9 E9 (fun d hd => by cases hd; exact rfl)) ?_;simp [frame106,Act.put, *]
          ·have e2 : X 2 = (.pointer (some ⟨b2,0,none⟩)) := hF 2 (by kernel_rfl);go_simp;refine zm1 hK ((.pointer (some ⟨b2,2,none⟩))) ?_;simp [frame106,Act.put, *]
          ·have e53 : X 53 = _ := zk1 (hI 53);have hx : Ext W w' := HEW.out.trans hph;have q1 := HCR.out w' hx;go_simp;refine zm1 hK ((.slice (some ⟨rb,ro,none⟩) c.R.length rcc)) ?_;simp [frame106,Act.put, *]
          ·have e10 : X 10 = (.slice (some ⟨ib,io,none⟩) O.length oc) := hF 10 (by kernel_rfl);go_simp;refine zm1 hK ((.slice (some ⟨ib,io,none⟩) O.length oc)) ?_;simp [frame106,Act.put, *]
          ·have e11 : X 11 = (.int .i64 (j : Int)) := hF 11 (by kernel_rfl);go_simp;refine zm1 hK ((.int .i64 (j : Int))) ?_;simp [frame106,Act.put, *]
          ·have e55 : X 55 = _ := zk1 (hI 55);have e56 : X 56 = _ := zk1 (hI 56);go_simp;refine zm1 hK ((.pointer (some ⟨ib,io + j,none⟩))) ?_;simp [frame106,Act.put, *]
          ·have e57 : X 57 = _ := zk1 (hI 57);have hx : Ext W w' := HEW.out.trans hph;have q1 := HOC.out w' hph;go_simp;refine zm1 hK ((.int .i64 (k : Int))) ?_;simp [frame106,Act.put, *]
          ·have e54 : X 54 = _ := zk1 (hI 54);have e58 : X 58 = _ := zk1 (hI 58);go_simp;refine zm1 hK ((.pointer (some ⟨rb,ro + k * 19,none⟩))) ?_;simp [frame106,Act.put, *]
          ·have e59 : X 59 = _ := zk1 (hI 59);go_simp;refine zm1 hK ((.pointer (some ⟨rb,ro + k * 19 + 11,none⟩))) ?_;simp [frame106,Act.put, *]
          ·have e60 : X 60 = _ := zk1 (hI 60);go_simp;refine zm1 hK ((.pointer (some ⟨rb,ro + k * 19 + 11,none⟩))) ?_;simp [frame106,Act.put, *]
          ·have e61 : X 61 = _ := zk1 (hI 61);have hx : Ext W w' := HEW.out.trans hph;have q1 := HQC.out w' hx;go_simp;refine zm1 hK ((.int .i64 qq)) ?_;simp [frame106,Act.put, *]
          ·have e52 : X 52 = _ := zk1 (hI 52);have e62 : X 62 = _ := zk1 (hI 62);have q1 := HGT.out;go_simp;refine zm1 hK ((.bool false)) ?_;simp [frame106,Act.put, *]
         ·intro X w' hph hI;have e50 : X 50 = _ := zk1 (hI 50);have e51 : X 51 = _ := zk1 (hI 51);have e52 : X 52 = _ := zk1 (hI 52);have e53 : X 53 = _ := zk1 (hI 53);have e54 : X 54 = _ := zk1 (hI 54);have e55 : X 55 = _ := zk1 (hI 55);have e56 : X 56 = _ := zk1 (hI 56);have e57 : X 57 = _ := zk1 (hI 57);have e58 : X 58 = _ := zk1 (hI 58);have e59 : X 59 = _ := zk1 (hI 59);have e60 : X 60 = _ := zk1 (hI 60);have e61 : X 61 = _ := zk1 (hI 61);have e62 : X 62 = _ := zk1 (hI 62);have e63 : X 63 = _ := zk1 (hI 63);clear hI;simp only [overF,List.foldl_cons,List.foldl_nil,List.setIfInBounds_toArray,List.set_cons_succ,List.set_cons_zero,e50,e51,e52,e53,e54,e55,e56,e57,e58,e59,e60,e61,e62,e63];have hx9 : Ext wr w' := hph;have HE9 := hide (HEK.out.trans hx9);have HZ := hide (HX.out.trans (HEW.out.trans hx9));clear hph hx9 e50 e51 e52 e53 e54 e55 e56 e57 e58 e59 e60 e61 e62 e63;generalize w' = W9 at *;go_wp2
          go_roundw
          case rel => exact ⟨j + 1,hltj,by go_num,HGN.out,HE9.out⟩
          case measure => simp [intOf] <;> omega
       ·obtain rfl : j = M.length := (by omega);have hltjz : ¬ ((M.length : Nat) : Int) < O.length := (by omega);have hgr := HGR3.out;rw [List.take_length] at hgr;have HGN := hide (HGD.out hgr);have HE9 := hide (HEJ11.out.trans HEK.out);clear hgr;go_wp2
        go_roundw
        case rel => exact ⟨i + 1,hlt,by go_num,HGN.out,HE9.out⟩
        case measure => simp [intOf] <;> omega
    ·obtain rfl : i = Y.length := (by omega);have hltz : ¬ (Y.length : Int) < Y.length := (by omega);have hgr := HGR.out;rw [List.take_length] at hgr;have HG2 := hide hgr;have z0 := HCS0.out wr HEW.out;obtain ⟨W4,rfl⟩ : ∃ x : World,x = wr := ⟨_,rfl⟩;have HE4 := hide HEW.out;clear hgr HGR HEJ HEW HROW2
     go_wp2_with fail
     clear hltz z0
     go_loopw [12] (fun v12 wr => ∃ i : Nat,i <= c.S.length /\ v12 = .int .i64 i /\ (∀ s ∈ c.S.take i,RS s = true) /\ Ext W4 wr) (fun i _ => c.S.length - (intOf i).toNat)
     case atStart => exact ⟨0,Nat.zero_le _,rfl,fun r hr => by simp at hr,zb⟩
     case round =>
      obtain ⟨i,hi,rfl,hgr,hext⟩ := hrel;have HEJ := hide hext;have HEW := hide (HE4.out.trans hext);have HGR := hide hgr;have z0 := HCS0.out wr (HE4.out.trans hext);clear hext hgr;by_cases hlt : i < c.S.length
      ·have hltz : (i : Int) < c.S.length := (by omega);have hwi : IntKind.i64.wrap ((i : Int) + 1) = ((i + 1 : Nat) : Int) := (by have := HSLN.out; rw [IntKind.wrap_i64]; omega);obtain ⟨gs,so,rfl,-,hrg⟩ := svcs_row HSR.out i hlt;have hid := hrg 0 (.int .i64 c.S[i].id) rfl;rw [Nat.add_zero] at hid;have hqu := hrg 4 (.int .i64 c.S[i].queue) rfl;have hfl := HR3.out HG1.out HG2.out c.S[i] (List.getElem_mem hlt)
       have hgd : RS c.S[i] = true -> ∀ s ∈ c.S.take (i + 1),RS s = true := fun h s hs => by
        rw [take_snoc c.S i hlt] at hs;rcases List.mem_append.1 hs with hs | hs
        ·exact HGR.out s hs
        ·rw [List.mem_singleton.1 hs];exact h
       rw [HRS.out] at hfl hgd;generalize c.S[i].id = sid at hid hfl hgd;generalize c.S[i].queue = squ at hqu hfl hgd;have hca := HCAB.out sid;generalize CN sid = nc at hca hfl hgd;have HFL := hide hfl;have HGD := hide hgd;have HCA := hide (fun X (hX : Ext W X) => hca X (HX.out.trans hX));have HID := hide (fun X (hX : Ext W X) => cell_ext hX hid);have HQU := hide (fun X (hX : Ext W X) => cell_ext hX hqu);have HCS := hide HCS0.out;clear hfl hgd hca hid hqu hrg
       go_upto_region 20 with (fail)
       refine wp_region_ro 106 [13,71,72,73,74,75,76,77,78,79] (fun w' => Ext wr w') (fun (t : Nat) (wI : World) (v : Value) => match t with | 13 => v = (.int .i64 nc) | 71 => v = (.agg (encC c).toArray) | 72 => v = (.string p) | 73 => v = (.pointer (some ⟨b2,0,none⟩)) | 74 => v = (.slice (some ⟨gs,so,none⟩) c.S.length sc) | 75 => v = (.int .i64 (i : Int)) | 76 => v = (.pointer (some ⟨gs,so + i * 7,none⟩)) | 77 => v = (.pointer (some ⟨gs,so + i * 7,none⟩)) | 78 => v = (.int .i64 sid) | 79 => v = (.int .i64 nc) | _ => True) (by kernel_rfl) rfl (by kernel_rfl) (by kernel_rfl) (by kernel_rfl) ?_ ?_ ?_ ?_ ?_
       ·intro t w' w'' v hR hv;exact hv
       ·intro w' w'' h e;exact Ext.trans (show Ext _ w' from h) e
       ·exact zb.drew
       ·intro i o ho X w' hph hI hF K hK;have hin : i < 10 := (zg ho);rcases zo hin with rfl | rfl | rfl | rfl | rfl | rfl | rfl | rfl | rfl | rfl
        all_goals first | (exact absurd hmi (by decide)) | (obtain rfl := Option.some.inj ho; unfold wpOp; simp only [ho]; rw [if_pos (by rfl)]; left; rw [frame106])
        ·have e2 : X 2 = (.pointer (some ⟨b2,0,none⟩)) := hF 2 (by kernel_rfl);have hx : Ext W w' := HEW.out.trans hph;refine wp_load_mid 30 (.tmp 2) rfl b2 0 e2 (encC c) cd (BoxC.range (HBX.out w' hx)) hcd1 hcd2 Tryz.confSize (metK (hK.out (.agg (encC c).toArray) _ zb (fun d hd => by cases hd; exact rfl)) ?_);simp [frame106,Act.put, *]
        ·have e1 : X 1 = (.string p) := hF 1 (by kernel_rfl);go_simp;refine zm1 hK ((.string p)) ?_;simp [frame106,Act.put, *]
        ·have e2 : X 2 = (.pointer (some ⟨b2,0,none⟩)) := hF 2 (by kernel_rfl);go_simp;refine zm1 hK ((.pointer (some ⟨b2,0,none⟩))) ?_;simp [frame106,Act.put, *]
        ·have e73 : X 73 = _ := zk1 (hI 73);have hx : Ext W w' := HEW.out.trans hph;have q1 := HCS.out w' hx;go_simp;refine zm1 hK ((.slice (some ⟨gs,so,none⟩) c.S.length sc)) ?_;simp [frame106,Act.put, *]
        ·have e12 : X 12 = (.int .i64 (i : Int)) := hF 12 (by kernel_rfl);go_simp;refine zm1 hK ((.int .i64 (i : Int))) ?_;simp [frame106,Act.put, *]
        ·have e74 : X 74 = _ := zk1 (hI 74);have e75 : X 75 = _ := zk1 (hI 75);go_simp;refine zm1 hK ((.pointer (some ⟨gs,so + i * 7,none⟩))) ?_;simp [frame106,Act.put, *]
        ·have e76 : X 76 = _ := zk1 (hI 76);go_simp;refine zm1 hK ((.pointer (some ⟨gs,so + i * 7,none⟩))) ?_;simp [frame106,Act.put, *]
        ·have e77 : X 77 = _ := zk1 (hI 77);have hx : Ext W w' := HEW.out.trans hph;have q1 := HID.out w' hx;go_simp;refine zm1 hK ((.int .i64 sid)) ?_;simp [frame106,Act.put, *]
        ·have e71 : X 71 = _ := zk1 (hI 71);have e72 : X 72 = _ := zk1 (hI 72);have e78 : X 78 = _ := zk1 (hI 78);have hx : Ext W w' := HEW.out.trans hph;go_simp;refine (HCA.out w' hx).mono ?_;rintro e w9 ⟨rfl,E9⟩;refine metK (hK.out (.int .i64 nc) w9 E9 (fun d hd => by cases hd; exact rfl)) ?_;simp [frame106,Act.put, *]
        ·have e79 : X 79 = _ := zk1 (hI 79);go_simp;refine zm1 hK ((.int .i64 nc)) ?_;simp [frame106,Act.put, *]
       ·intro X w' hph hI;have e13 : X 13 = _ := zk1 (hI 13);have e71 : X 71 = _ := zk1 (hI 71);have e72 : X 72 = _ := zk1 (hI 72);have e73 : X 73 = _ := zk1 (hI 73);have e74 : X 74 = _ := zk1 (hI 74);have e75 : X 75 = _ := zk1 (hI 75);have e76 : X 76 = _ := zk1 (hI 76);have e77 : X 77 = _ := zk1 (hI 77);have e78 : X 78 = _ := zk1 (hI 78);have e79 : X 79 = _ := zk1 (hI 79);clear hI;simp only [overF,List.foldl_cons,List.foldl_nil,List.setIfInBounds_toArray,List.set_cons_succ,List.set_cons_zero,e13,e71,e72,e73,e74,e75,e76,e77,e78,e79];have hx9 : Ext wr w' := hph;have hE := HEW.out.trans hx9;have q1 := HCS.out w' hE;have q2 := HQU.out w' hE;have q3 := HLO.out w' hE;have q4 := HWT.out w' hE;have HE9 := hide (HEJ.out.trans hx9);have HZ := hide (HX.out.trans hE);have hwl := HWL.out;clear hph hx9 hE e71 e72 e73 e74 e75 e76 e77 e78 e79;generalize w' = W9 at *;by_cases h1 : squ < nc
        ·have h1d : decide (squ < nc) = true := decide_eq_true h1;have HRF := hide (HFL.out (by simp; omega));go_wp2;go_ret2;exact ⟨by rw [HRF.out]; rfl,HZ.out⟩
        ·have h1d : decide (squ < nc) = false := decide_eq_false h1;by_cases h2 : c.low + c.wait < nc
         ·have h2d : decide (c.low + c.wait < nc) = true := decide_eq_true h2;have HRF := hide (HFL.out (by simp; omega));go_wp2;go_ret2;exact ⟨by rw [HRF.out]; rfl,HZ.out⟩
         ·have h2d : decide (c.low + c.wait < nc) = false := decide_eq_false h2;have HGN := hide (HGD.out (by simp; omega));go_wp2
          go_roundw
          case rel => exact ⟨i + 1,hlt,by go_num,HGN.out,HE9.out⟩
          case measure => simp [intOf] <;> omega
      ·obtain rfl : i = c.S.length := (by omega);have hltz : ¬ (c.S.length : Int) < c.S.length := (by omega);have hgr := HGR.out;rw [List.take_length] at hgr;have hRR := HR4.out HG1.out HG2.out hgr;clear hgr HGR;by_cases hgt : c.life < tm
       ·have HGT := hide (decide_eq_true hgt);rw [if_pos hgt] at hRR;have HRF := hide hRR;clear hRR
        go_upto_region 23 with (fail)
        refine wp_region_ro 106 [97,98,99,100,101,102] (fun w' => Ext wr w') (fun (t : Nat) (wI : World) (v : Value) => match t with | 97 => v = (.agg (encC c).toArray) | 98 => v = (.string p) | 99 => v = (.int .i64 tm) | 100 => v = (.pointer (some ⟨b2,16,none⟩)) | 101 => v = (.int .i64 c.life) | 102 => v = (.bool true) | _ => True) (by kernel_rfl) rfl (by kernel_rfl) (by kernel_rfl) (by kernel_rfl) ?_ ?_ ?_ ?_ ?_
        ·intro t w' w'' v hR hv;exact hv
        ·intro w' w'' h e;exact Ext.trans (show Ext _ w' from h) e
        ·exact zb.drew
        ·intro i o ho X w' hph hI hF K hK;have hin : i < 6 := (zg ho);rcases zo hin with rfl | rfl | rfl | rfl | rfl | rfl
         all_goals first | (exact absurd hmi (by decide)) | (obtain rfl := Option.some.inj ho; unfold wpOp; simp only [ho]; rw [if_pos (by rfl)]; left; rw [frame106])
         ·have e2 : X 2 = (.pointer (some ⟨b2,0,none⟩)) := hF 2 (by kernel_rfl);have hx : Ext W w' := HEW.out.trans hph;refine wp_load_mid 30 (.tmp 2) rfl b2 0 e2 (encC c) cd (BoxC.range (HBX.out w' hx)) hcd1 hcd2 Tryz.confSize (metK (hK.out (.agg (encC c).toArray) _ zb (fun d hd => by cases hd; exact rfl)) ?_);simp [frame106,Act.put, *]
         ·have e1 : X 1 = (.string p) := hF 1 (by kernel_rfl);go_simp;refine zm1 hK ((.string p)) ?_;simp [frame106,Act.put, *]
         ·have e97 : X 97 = _ := zk1 (hI 97);have e98 : X 98 = _ := zk1 (hI 98);have hx : Ext W w' := HEW.out.trans hph;go_simp;refine (HTI.out w' hx).mono ?_;rintro e w9 ⟨rfl,E9⟩;refine metK (hK.out (.int .i64 tm) w9 E9 (fun d hd => by cases hd; exact rfl)) ?_;simp [frame106,Act.put, *]
         ·have e2 : X 2 = (.pointer (some ⟨b2,0,none⟩)) := hF 2 (by kernel_rfl);go_simp;refine zm1 hK ((.pointer (some ⟨b2,16,none⟩))) ?_;simp [frame106,Act.put, *]
         ·have e100 : X 100 = _ := zk1 (hI 100);have hx : Ext W w' := HEW.out.trans hph;have q1 := HLF.out w' hx;go_simp;refine zm1 hK ((.int .i64 c.life)) ?_;simp [frame106,Act.put, *]
         ·have e99 : X 99 = _ := zk1 (hI 99);have e101 : X 101 = _ := zk1 (hI 101);have q1 := HGT.out;go_simp;refine zm1 hK ((.bool true)) ?_;simp [frame106,Act.put, *]
        ·intro X w' hph hI;have e97 : X 97 = _ := zk1 (hI 97);have e98 : X 98 = _ := zk1 (hI 98);have e99 : X 99 = _ := zk1 (hI 99);have e100 : X 100 = _ := zk1 (hI 100);have e101 : X 101 = _ := zk1 (hI 101);have e102 : X 102 = _ := zk1 (hI 102);clear hI;simp only [overF,List.foldl_cons,List.foldl_nil,List.setIfInBounds_toArray,List.set_cons_succ,List.set_cons_zero,e97,e98,e99,e100,e101,e102];have hx9 : Ext wr w' := hph;have HE9 := hide (HEW.out.trans hx9);clear hph hx9 e97 e98 e99 e100 e101 e102;generalize w' = W9 at *;have HZ := hide (HX.out.trans HE9.out);go_wp2;go_ret2;exact ⟨by rw [HRF.out]; rfl,HZ.out⟩
       ·have HGT := hide (decide_eq_false hgt);rw [if_neg hgt] at hRR;have HRF := hide hRR;clear hRR
        go_upto_region 23 with (fail)
        refine wp_region_ro 106 [97,98,99,100,101,102] (fun w' => Ext wr w') (fun (t : Nat) (wI : World) (v : Value) => match t with | 97 => v = (.agg (encC c).toArray) | 98 => v = (.string p) | 99 => v = (.int .i64 tm) | 100 => v = (.pointer (some ⟨b2,16,none⟩)) | 101 => v = (.int .i64 c.life) | 102 => v = (.bool false) | _ => True) (by kernel_rfl) rfl (by kernel_rfl) (by kernel_rfl) (by kernel_rfl) ?_ ?_ ?_ ?_ ?_
        ·intro t w' w'' v hR hv;exact hv
        ·intro w' w'' h e;exact Ext.trans (show Ext _ w' from h) e
        ·exact zb.drew
        ·intro i o ho X w' hph hI hF K hK;have hin : i < 6 := (zg ho);rcases zo hin with rfl | rfl | rfl | rfl | rfl | rfl
         all_goals first | (exact absurd hmi (by decide)) | (obtain rfl := Option.some.inj ho; unfold wpOp; simp only [ho]; rw [if_pos (by rfl)]; left; rw [frame106])
         ·have e2 : X 2 = (.pointer (some ⟨b2,0,none⟩)) := hF 2 (by kernel_rfl);have hx : Ext W w' := HEW.out.trans hph;refine wp_load_mid 30 (.tmp 2) rfl b2 0 e2 (encC c) cd (BoxC.range (HBX.out w' hx)) hcd1 hcd2 Tryz.confSize (metK (hK.out (.agg (encC c).toArray) _ zb (fun d hd => by cases hd; exact rfl)) ?_);simp [frame106,Act.put, *]
         ·have e1 : X 1 = (.string p) := hF 1 (by kernel_rfl);go_simp;refine zm1 hK ((.string p)) ?_;simp [frame106,Act.put, *]
         ·have e97 : X 97 = _ := zk1 (hI 97);have e98 : X 98 = _ := zk1 (hI 98);have hx : Ext W w' := HEW.out.trans hph;go_simp;refine (HTI.out w' hx).mono ?_;rintro e w9 ⟨rfl,E9⟩;refine metK (hK.out (.int .i64 tm) w9 E9 (fun d hd => by cases hd; exact rfl)) ?_;simp [frame106,Act.put, *]
         ·have e2 : X 2 = (.pointer (some ⟨b2,0,none⟩)) := hF 2 (by kernel_rfl);go_simp;refine zm1 hK ((.pointer (some ⟨b2,16,none⟩))) ?_;simp [frame106,Act.put, *]
         ·have e100 : X 100 = _ := zk1 (hI 100);have hx : Ext W w' := HEW.out.trans hph;have q1 := HLF.out w' hx;go_simp;refine zm1 hK ((.int .i64 c.life)) ?_;simp [frame106,Act.put, *]
         ·have e99 : X 99 = _ := zk1 (hI 99);have e101 : X 101 = _ := zk1 (hI 101);have q1 := HGT.out;go_simp;refine zm1 hK ((.bool false)) ?_;simp [frame106,Act.put, *]
        ·intro X w' hph hI;have e97 : X 97 = _ := zk1 (hI 97);have e98 : X 98 = _ := zk1 (hI 98);have e99 : X 99 = _ := zk1 (hI 99);have e100 : X 100 = _ := zk1 (hI 100);have e101 : X 101 = _ := zk1 (hI 101);have e102 : X 102 = _ := zk1 (hI 102);clear hI;simp only [overF,List.foldl_cons,List.foldl_nil,List.setIfInBounds_toArray,List.set_cons_succ,List.set_cons_zero,e97,e98,e99,e100,e101,e102];have hx9 : Ext wr w' := hph;have HE9 := hide (HEW.out.trans hx9);clear hph hx9 e97 e98 e99 e100 e101 e102;generalize w' = W9 at *;have hbx := HBX.out W9 HE9.out
         go_wp2_with (first | (refine BigFrame.wpList_want (by rfl) fun K hK => ?_; refine wp_load_mid 30 (.tmp 2) rfl b2 0 rfl (encC c) cd hbx.range hcd1 hcd2 Tryz.confSize ?_; refine hK _ _ ?_; simp only [Act.put]))
         refine (HTI.out W9 HE9.out).mono ?_;rintro e w7 ⟨rfl,E7⟩;have HZ := hide (HX.out.trans (HE9.out.trans E7));clear E7 hbx
         go_wp2_with fail
         go_ret2;exact ⟨by rw [HRF.out]; rfl,HZ.out⟩
end Go.Proofs.YtceaeiaoanhlnaaGreatDoor
