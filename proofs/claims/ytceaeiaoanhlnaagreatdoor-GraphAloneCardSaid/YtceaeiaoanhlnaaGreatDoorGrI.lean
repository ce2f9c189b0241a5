import Derived.Test.YtceaeiaoanhlnaaGreatDoorGpJ
import Derived.Test.YtceaeiaoanhlnaaGreatDoorGrG
import Derived.Test.YtceaeiaoanhlnaaGreatDoorGrH
import Derived.Test.YtceaeiaoanhlnaaGreatDoorZgq
set_option maxRecDepth 100000
set_option maxHeartbeats 32000000
namespace Go.Proofs.YtceaeiaoanhlnaaGreatDoor
open Go.ChangeShapes Go.WideShapes Go.ChangeAt Go.RowKit Go.Lib Go.Shelf
theorem there_cells {w : World} {b : Nat} {T : TypeId} {Z : Array Value} {n : Nat} (h : w.heap[b]? = some (.cells Z T (0,0))) (hn : Z.size = n) : w.there b 0 n := fun q hq => by
 rw [Nat.zero_add];refine ⟨?_,by simp only [World.frozen?]; rw [h]; simp⟩;simp only [World.cell?,h];simp [hq,hn]
theorem set_cells {w : World} {b : Nat} {T : TypeId} {Z : Array Value} {L : List Value} (h : w.heap[b]? = some (.cells Z T (0,0))) (hn : Z.size = L.length) : (w.setCells b 0 L).heap[b]? = some (.cells L.toArray T (0,0)) := by
 have hrs := World.rangeAt_setCells_same w b 0 L (there_cells h hn);obtain ⟨cs,h1,h2⟩ := setCells_block b T (0,0) L 0 w _ h
 have e : cs = L.toArray := by
  apply Array.ext_getElem?;intro j;by_cases hj : j < L.length
  ·have := hrs j L[j] (List.getElem?_eq_getElem hj);rw [Nat.zero_add] at this;simp only [World.cell?,h1] at this;exact (by simpa using this : cs[j]? = some L[j]).trans (by simp [hj])
  ·rw [Array.getElem?_eq_none (by rw [h2]; omega),Array.getElem?_eq_none (by simp; omega)]
 rw [<- e];exact h1
def PhV0 (W : World) (T : TypeId) (Z : Array Value) (L : List Value) : List Value -> World -> Prop
 | [],w' => Ext W w'
 | [a],w' => Ext W w' /\ ∃ b,a = .pointer (some ⟨b,0,none⟩) /\ W.heap.size <= b /\ w'.heap[b]? = some (.cells Z T (0,0))
 | a :: _ :: _,w' => Ext W w' /\ ∃ b,a = .pointer (some ⟨b,0,none⟩) /\ W.heap.size <= b /\ w'.heap[b]? = some (.cells L.toArray T (0,0))
theorem PhV0.keep {W : World} {T : TypeId} {Z : Array Value} {L : List Value} : ∀ {vs : List Value} {w' w'' : World},PhV0 W T Z L vs w' -> Ext w' w'' -> PhV0 W T Z L vs w''
 | [],_,_,h,e => Ext.trans h e
 | [_],_,_,⟨h1,b,h2,h3,h4⟩,e => ⟨h1.trans e,b,h2,h3,(e.block b (zg h4)).trans h4⟩
 | _ :: _ :: _,_,_,⟨h1,b,h2,h3,h4⟩,e => ⟨h1.trans e,b,h2,h3,(e.block b (zg h4)).trans h4⟩
theorem PhV0.e {W : World} {T : TypeId} {Z : Array Value} {L : List Value} : ∀ {vs : List Value} {w' : World},PhV0 W T Z L vs w' -> Ext W w'
 | [],_,h => h
 | [_],_,h => h.1
 | _ :: _ :: _,_,h => h.1
theorem ends_row33 {w : World} {a : Option Addr} {n cap : Nat} {xs : List EndD} (h : Ends w (.slice a n cap) xs) (i : Nat) (hi : i < xs.length) :
  ∃ b off,a = some ⟨b,off,none⟩ /\ w.rangeAt b (off + i * 3) (encE xs[i]) := by
 obtain ⟨b,off,h1,-,h2⟩ := sl_at h i hi;exact ⟨b,off,h1,h2⟩
theorem rends_any (c : ConfD) (id : Int) (w : World) (h : GC w c) :
  Calls Tryz.prog 76 #[.agg (encC c).toArray,.int .i64 id] w fun e w' => e = .returned (.bool (hasEnd c.E id)) /\ Ext w w' := by
 have hx : Ext w (w.alloc (.cells (encC c).toArray 30)) := za;have hb1 : BoxC (w.alloc (.cells (encC c).toArray 30)) w.heap.size c := heap_alloc_new w (.cells (encC c).toArray 30);have hen := (h.ext hx).ok.2.2.1;obtain ⟨hel,ea,ec,hev⟩ := hen.shape;rw [hev] at hen;have HEL := hide hel;have HEV := hide hev;clear h hel hev
 go_enter Tryz.func76,Tryz.ntmps76
 go_upto_region 1 with (fail)
 show Code.wp _ _ _ _ (w.alloc (.cells (encC c).toArray 30));generalize w.alloc (.cells (encC c).toArray 30) = W at hx hb1 hen ⊢;obtain ⟨b2,hbn⟩ : ∃ b,w.heap.size = b := ⟨_,rfl⟩;rw [hbn] at hb1 ⊢;have HX := hide hx;have HBX := hide (fun X (hX : Ext W X) => BoxC.ext hb1 hX);clear hx hb1 hbn;have HEN := hide hen;have HC1 := hide (fun X (hX : Ext W X) => (by have := (HBX.out X hX).cell 1 _ (show (encC c)[1]? = some c.ev from rfl); rw [HEV.out] at this; exact this : X.cell? ⟨b2,1,none⟩ = some (.slice ea c.E.length ec)));have y1 := HC1.out W zb;clear hen
 go_wp2_with fail
 go_loopw [5] (fun v5 wr => ∃ i : Nat,i <= c.E.length /\ v5 = .int .i64 i /\ ((c.E.take i).any fun e => e.svc == id) = false /\ wr = W) (fun i _ => c.E.length - (intOf i).toNat)
 case atStart => exact ⟨0,Nat.zero_le _,rfl,rfl,rfl⟩
 case round =>
  obtain ⟨i,hi,rfl,hno,rfl⟩ := hrel;by_cases hlt : i < c.E.length
  ·have hltz : (i : Int) < c.E.length := (by omega);have hwi : IntKind.i64.wrap ((i : Int) + 1) = ((i + 1 : Nat) : Int) := (by have := HEL.out; rw [IntKind.wrap_i64]; omega);obtain ⟨eb,eo,rfl,hrg⟩ := ends_row33 HEN.out i hlt;have hc1 := hrg 1 _ rfl
   have hcs : ((c.E.take (i + 1)).any fun e => e.svc == id) = (c.E[i].svc == id) := by
    rw [take_snoc c.E i hlt,List.any_append,hno];simp
   have hin : (c.E[i].svc == id) = true -> hasEnd c.E id = true := fun h => List.any_eq_true.2 ⟨c.E[i],List.getElem_mem hlt,h⟩;generalize c.E[i].svc = x at hc1 hcs hin;clear hrg hno
   cases he : (x == id) with
   | true =>
    have HIN := hide (hin he);clear hin hcs;go_wp2;go_ret
    exact ⟨ret_bool HIN.out.symm,HX.out⟩
   | false =>
    rw [he] at hcs;have HCS := hide hcs;clear hin hcs;go_wp2
    go_roundw
    case rel => exact ⟨i + 1,hlt,by go_num,HCS.out,by first | rfl | trivial⟩
    case measure => simp [intOf] <;> omega
  ·obtain rfl : i = c.E.length := (by omega);have hltz : ¬ (c.E.length : Int) < c.E.length := (by omega);rw [List.take_length] at hno;have HNO := hide (show hasEnd c.E id = false from hno);clear hno;go_wp2;go_ret;exact ⟨ret_bool HNO.out.symm,HX.out⟩
def TimeOk (c : ConfD) (f : Nat) : Prop := ∀ (p : ByteArray) (w : World),GC w c -> SzB p -> Deep c f p ->
 Calls Tryz.prog 44 #[.agg (encC c).toArray,.string p] w fun e w' => e = .returned (.int .i64 (timeF c f p)) /\ Ext w w'
theorem svcSize33 : (Tryz.prog.info? 62).map (·.size) = some 7 := by kernel_rfl
theorem frame35 (x : Nat -> Value) : frameOf 35 x = #[x 0,x 1,x 2,x 3,x 4,x 5,x 6,x 7,x 8,x 9,x 10,x 11,x 12,x 13,x 14,x 15,x 16,x 17,x 18,x 19,x 20,x 21,x 22,x 23,x 24,x 25,x 26,x 27,x 28,x 29,x 30,x 31,x 32,x 33,x 34] := rfl
theorem frame37 (x : Nat -> Value) : frameOf 37 x = #[x 0,x 1,x 2,x 3,x 4,x 5,x 6,x 7,x 8,x 9,x 10,x 11,x 12,x 13,x 14,x 15,x 16,x 17,x 18,x 19,x 20,x 21,x 22,x 23,x 24,x 25,x 26,x 27,x 28,x 29,x 30,x 31,x 32,x 33,x 34,x 35,x 36] := rfl
theorem frame76 (x : Nat -> Value) : frameOf 76 x = #[x 0,x 1,x 2,x 3,x 4,x 5,x 6,x 7,x 8,x 9,x 10,x 11,x 12,x 13,x 14,x 15,x 16,x 17,x 18,x 19,x 20,x 21,x 22,x 23,x 24,x 25,x 26,x 27,x 28,x 29,x 30,x 31,x 32,x 33,x 34,x 35,x 36,x 37,x 38,x 39,x 40,x 41,x 42,x 43,x 44,x 45,x 46,x 47,x 48,x 49,x 50,x 51,x 52,x 53,x 54,x 55,x 56,x 57,x 58,x 59,x 60,x 61,x 62,x 63,x 64,x 65,x 66,x 67,x 68,x 69,x 70,x 71,x 72,x 73,x 74,x 75] := rfl
theorem rtime_any {c : ConfD} {f : Nat} (ih : TimeOk c f) (id : Int) (w : World) (h : GC w c) (hd : ∀ k ∈ (findS c.S id).K,Deep c f k) :
  Calls Tryz.prog 78 #[.agg (encC c).toArray,.int .i64 id] w fun e w' => e = .returned (.int .i64 (svcT c (timeF c f) id)) /\ Ext w w' := by
 obtain ⟨cd,hcd1,hcd2⟩ := Tryz.confDesc;have hx : Ext w (w.alloc (.cells (encC c).toArray 30)) := za;have hb1 : BoxC (w.alloc (.cells (encC c).toArray 30)) w.heap.size c := heap_alloc_new w (.cells (encC c).toArray 30);have HG := hide (h.ext hx);have hsv := fun X (hX : Ext w X) => rsvc_any c id X (h.ext hX);have hks := (h.ext hx).find id;have hkl := find_kids h.chk id;have hkz := h.ksz id
 have hwk : 0 <= (findS c.S id).work /\ (findS c.S id).work <= 100 := by
  cases ht : thereB c.S id with
  | true => have := (chk_svc h.chk (findS_there ht).1).2.2.1; omega
  | false => rw [findS_not ht]; exact ⟨Int.le_refl _,by show (0 : Int) <= 100; omega⟩
 have hhp := (chk_num h.chk).2.2.2.1;have hT : svcT c (timeF c f) id = (findS c.S id).K.foldl (fun n k => sumM n (timeF c f k)) (2 * c.hop + (findS c.S id).work + 2) := rfl;have hti := fun (k : ByteArray) (hk : k ∈ (findS c.S id).K) X (hX : Ext w X) => ih k X (h.ext hX) (hkz k hk) (hd k hk);have hfb := fun (k : ByteArray) => timeF_bd h.chk h.fit f k;obtain ⟨R,hR⟩ : ∃ R,svcT c (timeF c f) id = R := ⟨_,rfl⟩;rw [hR] at hT ⊢;obtain ⟨s,hs⟩ : ∃ s,findS c.S id = s := ⟨_,rfl⟩;simp only [hs] at hsv hks hkl hkz hwk hT hti;obtain ⟨sid,skv,KD,swk,ssl,squ,sba,swa⟩ := s;simp only [] at hks hkl hkz hwk hT hti;obtain ⟨-,sa,sc,rfl⟩ := hks.shape;generalize timeF c f = F at hT hti hfb;have HSVC := hide (fun X (hX : Ext w X) => (hsv X hX : Calls _ _ _ _ fun e w' => e = .returned (.agg (encV (⟨sid,.slice sa KD.length sc,KD,swk,ssl,squ,sba,swa⟩ : SvcD)).toArray) /\ Ext X w'));have HKL := hide hkl;have HT := hide hT;have HTIK := hide hti;have HFB := hide hfb;have HWK := hide hwk;have HHP := hide hhp;clear hsv hkl hkz hT hti hfb h hs hR hd ih hwk hhp
 go_enter Tryz.func78,Tryz.ntmps78
 go_upto_region 1 with (fail)
 show Code.wp _ _ _ _ (w.alloc (.cells (encC c).toArray 30));generalize w.alloc (.cells (encC c).toArray 30) = W at hx hb1 HG hks ⊢;obtain ⟨b2,hbn⟩ : ∃ b,w.heap.size = b := ⟨_,rfl⟩;rw [hbn] at hb1 ⊢;have HX := hide hx;have HBX := hide (fun X (hX : Ext W X) => BoxC.ext hb1 hX);clear hx hb1 hbn;have HKS := hide hks;have hbx := HBX.out W zb;clear hks;refine wp_region_lit ?_;refine wpList_load_mid rfl 30 (.tmp 2) rfl b2 0 rfl (encC c) cd hbx.range hcd1 hcd2 Tryz.confSize ?_;refine wpList_plain rfl fun Kq hKq => ?_;go_simp;refine hKq _ _ ?_;clear hKq Kq;refine wpList_plain rfl fun Kq hKq => ?_;go_simp;refine (HSVC.out W HX.out).mono ?_;rintro e W1 ⟨rfl,E1⟩;refine hKq _ _ ?_;clear hKq Kq;refine wpList_box rfl 62 rfl rfl (.tmp 5) (.tmp 10) rfl (encV (⟨sid,.slice sa KD.length sc,KD,swk,ssl,squ,sba,swa⟩ : SvcD)) _ allocV rfl rfl rfl svcSize33 (encV_ones rfl) ?_;intro W2 hb5 E2;obtain ⟨b5,hb5n⟩ : ∃ b,W1.heap.size = b := ⟨_,rfl⟩;rw [hb5n] at hb5 ⊢;have HE2 := hide (E1.trans E2);have z1 : W2.cell? ⟨b5,2,none⟩ = some (.int .i64 swk) := cell_box hb5 2 _ rfl;have z2 : W2.cell? ⟨b2,15,none⟩ = some (.int .i64 c.hop) := (HBX.out W2 (E1.trans E2)).cell 15 _ rfl;have z3 : W2.cell? ⟨b5,1,none⟩ = some (.slice sa KD.length sc) := cell_box hb5 1 _ rfl;have HZ3 := hide (fun X (hX : Ext W2 X) => cell_ext hX z3);clear hb5 hb5n E1 E2 hbx;refine wpList_nil ?_;simp only [Act.put];have hw1 : IntKind.i64.wrap (2 * c.hop) = 2 * c.hop := by have := HHP.out; rw [IntKind.wrap_i64]; omega
 have hw2 : IntKind.i64.wrap (2 * c.hop + swk) = 2 * c.hop + swk := by have := HHP.out; have := HWK.out; rw [IntKind.wrap_i64]; omega
 have hw3 : IntKind.i64.wrap (2 * c.hop + swk + 2) = 2 * c.hop + swk + 2 := by have := HHP.out; have := HWK.out; rw [IntKind.wrap_i64]; omega
 have hn0 : 0 <= 2 * c.hop + swk + 2 /\ 2 * c.hop + swk + 2 <= mostN := by have := HHP.out; have := HWK.out; unfold mostN; omega
 have HN0 := hide hn0;clear hn0
 go_upto_region 3 with (fail)
 obtain ⟨n0,hn0⟩ : ∃ z,2 * c.hop + swk + 2 = z := ⟨_,rfl⟩;rw [hn0];rw [hn0] at HN0 HT;clear z1 z2 hw1 hw2 hw3 hn0
 go_wp2_with fail
 go_loopw [6,7] (fun v6 v7 wr => ∃ i : Nat,i <= KD.length /\ v7 = .int .i64 i /\ v6 = .int .i64 ((KD.take i).foldl (fun n k => sumM n (F k)) n0) /\ Ext W2 wr) (fun _ i _ => KD.length - (intOf i).toNat)
 case atStart => exact ⟨0,Nat.zero_le _,rfl,rfl,zb⟩
 case round =>
  obtain ⟨i,hi,rfl,rfl,hext⟩ := hrel;have HEK := hide hext;have HEW := hide (HE2.out.trans hext);have z3 := HZ3.out wr hext;clear hext;by_cases hlt : i < KD.length
  ·have hltz : (i : Int) < KD.length := (by omega);have hwi : IntKind.i64.wrap ((i : Int) + 1) = ((i + 1 : Nat) : Int) := (by have := HKL.out; rw [IntKind.wrap_i64]; omega);obtain ⟨sb,so,rfl,-,hpc⟩ := strs_row HKS.out i hlt;have hti := HTIK.out KD[i] (List.getElem_mem hlt)
   have hsn : (KD.take (i + 1)).foldl (fun n k => sumM n (F k)) n0 = sumM ((KD.take i).foldl (fun n k => sumM n (F k)) n0) (F KD[i]) := by
    rw [take_snoc KD i hlt,List.foldl_append];rfl
   have hmb := foldl_bd (g := fun n k => sumM n (F k)) (fun n k hn => sumM_bd hn.1 (HFB.out k).1) (KD.take i) n0 HN0.out;have hyb := HFB.out KD[i];generalize (KD.take i).foldl (fun n k => sumM n (F k)) n0 = m at hsn hmb ⊢;generalize KD[i] = p at hpc hti hsn hyb;generalize F p = y at hti hsn hyb;have HTI := hide (fun X (hX : Ext W X) => hti X (HX.out.trans hX));have HSU := hide (fun X => rsum33_any m y X hmb hyb);have HSN := hide hsn;have HPC := hide (fun X (hX : Ext W X) => cell_ext hX hpc);have HKV := hide (fun X (hX : Ext wr X) => cell_ext hX z3);clear hpc hti hsn hmb hyb
   go_upto_region 6 with (fail)
   refine wp_region_ro 35 [6,25,26,27,28,29,30,31,32,33] (fun w' => Ext W w' /\ Ext wr w') (fun (t : Nat) (wI : World) (v : Value) => match t with | 6 => v = (.int .i64 (sumM m y)) | 25 => v = (.int .i64 m) | 26 => v = (.agg (encC c).toArray) | 27 => v = (.pointer (some ⟨b5,1,none⟩)) | 28 => v = (.slice (some ⟨sb,so,none⟩) KD.length sc) | 29 => v = (.int .i64 (i : Int)) | 30 => v = (.pointer (some ⟨sb,so + i,none⟩)) | 31 => v = (.string p) | 32 => v = (.int .i64 y) | 33 => v = (.int .i64 (sumM m y)) | _ => True) (by kernel_rfl) rfl (by kernel_rfl) (by kernel_rfl) (by kernel_rfl) ?_ ?_ ?_ ?_ ?_
   ·intro t w' w'' v hR hv;exact hv
   ·intro w' w'' h e;exact ⟨h.1.trans e,h.2.trans e⟩
   ·exact ⟨HEW.out.drew,zb.drew⟩
   ·intro i o ho X w' hph hI hF K hK;have hin : i < 10 := (zg ho);rcases zo hin with rfl | rfl | rfl | rfl | rfl | rfl | rfl | rfl | rfl | rfl
    all_goals first | (exact absurd hmi (by decide)) | (obtain rfl := Option.some.inj ho; unfold wpOp; simp only [ho]; rw [if_pos (by rfl)]; left; rw [frame35])
    ·have e6 : X 6 = (.int .i64 m) := hF 6 (by kernel_rfl);go_simp;refine zm1 hK ((.int .i64 m)) ?_;simp [frame35,Act.put, *]
    ·have e2 : X 2 = (.pointer (some ⟨b2,0,none⟩)) := hF 2 (by kernel_rfl);have hx : Ext W w' := hph.1;refine wp_load_mid 30 (.tmp 2) rfl b2 0 e2 (encC c) cd (BoxC.range (HBX.out w' hx)) hcd1 hcd2 Tryz.confSize (metK (hK.out (.agg (encC c).toArray) _ zb (fun d hd => by cases hd; exact rfl)) ?_);simp [frame35,Act.put, *]
    ·have e5 : X 5 = (.pointer (some ⟨b5,0,none⟩)) := hF 5 (by kernel_rfl);go_simp;refine zm1 hK ((.pointer (some ⟨b5,1,none⟩))) ?_;simp [frame35,Act.put, *]
    ·have e27 : X 27 = _ := zk1 (hI 27);have hx : Ext W w' := hph.1;have q1 := HKV.out w' hph.2;go_simp;refine zm1 hK ((.slice (some ⟨sb,so,none⟩) KD.length sc)) ?_;simp [frame35,Act.put, *]
    ·have e7 : X 7 = (.int .i64 (i : Int)) := hF 7 (by kernel_rfl);go_simp;refine zm1 hK ((.int .i64 (i : Int))) ?_;simp [frame35,Act.put, *]
    ·have e28 : X 28 = _ := zk1 (hI 28);have e29 : X 29 = _ := zk1 (hI 29);go_simp;refine zm1 hK ((.pointer (some ⟨sb,so + i,none⟩))) ?_;simp [frame35,Act.put, *]
    ·have e30 : X 30 = _ := zk1 (hI 30);have hx : Ext W w' := hph.1;have q1 := HPC.out w' hx;go_simp;refine zm1 hK ((.string p)) ?_;simp [frame35,Act.put, *]
    ·have e26 : X 26 = _ := zk1 (hI 26);have e31 : X 31 = _ := zk1 (hI 31);have hx : Ext W w' := hph.1;go_simp;refine (HTI.out w' hx).mono ?_;rintro e w9 ⟨rfl,E9⟩;refine metK (hK.out (.int .i64 y) w9 E9 (fun d hd => by cases hd; exact rfl)) ?_;simp [frame35,Act.put, *]
    ·have e25 : X 25 = _ := zk1 (hI 25);have e32 : X 32 = _ := zk1 (hI 32);go_simp;refine (HSU.out w').mono ?_;rintro e w9 ⟨rfl,rfl⟩;refine metK (hK.out (.int .i64 (sumM m y)) w' zb (fun d hd => by cases hd; exact rfl)) ?_;simp [frame35,Act.put, *]
    ·have e33 : X 33 = _ := zk1 (hI 33);go_simp;refine zm1 hK ((.int .i64 (sumM m y))) ?_;simp [frame35,Act.put, *]
   ·intro X w' hph hI;have e6 : X 6 = _ := zk1 (hI 6);have e25 : X 25 = _ := zk1 (hI 25);have e26 : X 26 = _ := zk1 (hI 26);have e27 : X 27 = _ := zk1 (hI 27);have e28 : X 28 = _ := zk1 (hI 28);have e29 : X 29 = _ := zk1 (hI 29);have e30 : X 30 = _ := zk1 (hI 30);have e31 : X 31 = _ := zk1 (hI 31);have e32 : X 32 = _ := zk1 (hI 32);have e33 : X 33 = _ := zk1 (hI 33);clear hI;simp only [overF,List.foldl_cons,List.foldl_nil,List.setIfInBounds_toArray,List.set_cons_succ,List.set_cons_zero,e6,e25,e26,e27,e28,e29,e30,e31,e32,e33];obtain ⟨hx1,hx2⟩ := hph;have HE9 := hide hx1;have HR9 := hide (HEK.out.trans hx2);clear hx1 hx2 e25 e26 e27 e28 e29 e30 e31 e32 e33;generalize w' = W9 at *;go_wp2
    go_roundw
    case rel => exact ⟨i + 1,hlt,by go_num,by rw [HSN.out],HR9.out⟩
    case measure => simp [intOf] <;> omega
  ·obtain rfl : i = KD.length := (by omega);have hltz : ¬ (KD.length : Int) < KD.length := (by omega);rw [List.take_length];have HZ := hide (HX.out.trans HEW.out);go_wp2;go_ret;exact ⟨by rw [<- HT.out]; rfl,HZ.out⟩
theorem injSize0 : (Tryz.prog.underlying 48).map TypeDesc.isRow = some true := by kernel_rfl
theorem injDesc : ∃ d,Tryz.prog.underlying 48 = some d /\ d.isRow = true := by
 have h := injSize0
 cases hu : Tryz.prog.underlying 48 with
 | none => rw [hu] at h; cases h
 | some d => rw [hu] at h; exact ⟨d,rfl,by simpa using h⟩
theorem Tryz.injSize : (Tryz.prog.info? 48).map (·.size) = some 3 := by kernel_rfl
def tickStep (n : Int) (r : RuleD) : Int := if 0 < r.de then max n r.ti else n
theorem tick_at (R : List RuleD) (j : Nat) (hj : j < R.length) : (R.take (j + 1)).foldl tickStep 0 = tickStep ((R.take j).foldl tickStep 0) R[j] := by
 rw [take_snoc R j hj,List.foldl_append];rfl
theorem rTime_step {c : ConfD} {f : Nat} (ih : TimeOk c f) : TimeOk c (f + 1) := fun p w h hp hdp => by
 obtain ⟨cd,hcd1,hcd2⟩ := Tryz.confDesc;obtain ⟨jd,hjd1,hjd2⟩ := injDesc;have hx : Ext w (w.alloc (.cells (encC c).toArray 30)) := za;have hb1 : BoxC (w.alloc (.cells (encC c).toArray 30)) w.heap.size c := heap_alloc_new w (.cells (encC c).toArray 30);have hti := fun (id : Int) (hid : id ∈ bothP c.R p) X (hX : Ext w X) => rtime_any ih id X (h.ext hX) (hdp id hid);have hse := fun X (hX : Ext w X) => rser_any c p X (h.ext hX) hp;have hco := fun X (hX : Ext w X) => rcop_any c p X (h.ext hX) hp;have hon := fun X (hX : Ext w X) => ron_any c.R p c.rv X (h.ext hX).r (h.ext hX).rk (chk_paths h.chk h.fit) hp (by have := chk_R h.chk; omega);have hru := (h.ext hx).r;have hfb := fun (id : Int) => svcT_bd h.chk (timeF c f) (fun x => (timeF_bd h.chk h.fit f x).1) id;have htk := tick_bd h.chk h.fit p;have hoa := onL_at c.R p;have hol := onRows_len c.R p;have hrl := chk_R h.chk;have hll : (onR c.R p).length <= c.R.length := by unfold onR; exact List.length_filter_le _ _
 have hac := targ_len h.chk p;obtain ⟨_,ra,rcc,hrv⟩ := hru.shape;rw [hrv] at hru hon;have hT : timeF c (f + 1) p = sumM ((targC c.R p).foldl (fun n id => sumM n (svcT c (timeF c f) id)) ((targS c.R p).foldl (fun n id => max n (svcT c (timeF c f) id)) 0)) ((onR c.R p).foldl tickStep 0) := rfl;have htk2 : 0 <= (onR c.R p).foldl tickStep 0 /\ (onR c.R p).foldl tickStep 0 <= mostN := htk;have htA : ∀ id ∈ targS c.R p,id ∈ bothP c.R p := fun id hid => List.mem_append_left _ hid;have htC : ∀ id ∈ targC c.R p,id ∈ bothP c.R p := fun id hid => List.mem_append_right _ hid;obtain ⟨R,hR⟩ : ∃ R,timeF c (f + 1) p = R := ⟨_,rfl⟩;rw [hR] at hT ⊢;generalize onL c.R (bl p) c.R.length = O at hon hoa hol;generalize onR c.R p = M at hoa hol hll hT htk2;generalize targS c.R p = A at hse hac hT htA;generalize targC c.R p = C at hco hac hT htC;generalize bothP c.R p = BB at hti htA htC;generalize svcT c (timeF c f) = F at hti hfb hT;have HTIA := hide (fun (id : Int) (hid : id ∈ A) X (hX : Ext w X) => hti id (htA id hid) X hX);have HTIC := hide (fun (id : Int) (hid : id ∈ C) X (hX : Ext w X) => hti id (htC id hid) X hX);have HSER := hide hse;have HCOP := hide hco;have HON := hide hon;have HFB := hide hfb;have HTK := hide htk2;have HOA := hide hoa;have HOL := hide hol;have HRL := hide hrl;have HLL := hide hll;have HAC := hide hac;have HT := hide hT;have HRV := hide hrv;clear hti hse hco hon hfb htk htk2 hoa hol hrl hll hac hT hrv htA htC h hp hdp hR ih
 go_enter Tryz.func44,Tryz.ntmps44
 go_upto_region 1 with (fail)
 show Code.wp _ _ _ _ (w.alloc (.cells (encC c).toArray 30));generalize w.alloc (.cells (encC c).toArray 30) = W at hx hb1 hru ⊢;obtain ⟨b2,hbn⟩ : ∃ b,w.heap.size = b := ⟨_,rfl⟩;rw [hbn] at hb1 ⊢;have HX := hide hx;have HBX := hide (fun X (hX : Ext W X) => BoxC.ext hb1 hX);clear hx hb1 hbn;have HRU := hide hru;have HCR := hide (fun X (hX : Ext W X) => (by have := (HBX.out X hX).cell 2 _ (show (encC c)[2]? = some c.rv from rfl); rw [HRV.out] at this; exact this : X.cell? ⟨b2,2,none⟩ = some (.slice ra c.R.length rcc)));have hbx := HBX.out W zb;clear hru
 go_wp2_with (first | (refine BigFrame.wpList_want (by rfl) fun K hK => ?_; refine wp_load_mid 30 (.tmp 2) rfl b2 0 rfl (encC c) cd hbx.range hcd1 hcd2 Tryz.confSize ?_; refine hK _ _ ?_; simp only [Act.put]))
 refine (HSER.out W HX.out).mono ?_;rintro e W1 ⟨v1,rfl,ho1,E1⟩;obtain ⟨aa,ac,rfl⟩ := owns_shape ho1;have HO1 := hide ho1;have HE1 := hide E1;clear ho1 E1 hbx HSER
 go_wp2_with fail
 go_loopw [5,7] (fun v5 v7 wr => ∃ i : Nat,i <= A.length /\ v7 = .int .i64 i /\ v5 = .int .i64 ((A.take i).foldl (fun n id => max n (F id)) 0) /\ Ext W1 wr) (fun _ i _ => A.length - (intOf i).toNat)
 case atStart => exact ⟨0,Nat.zero_le _,rfl,rfl,zb⟩
 case round =>
  obtain ⟨i,hi,rfl,rfl,hext⟩ := hrel;have HEJ := hide hext;have HEW := hide (HE1.out.trans hext);clear hext;by_cases hlt : i < A.length
  ·have hltz : (i : Int) < A.length := (by omega);have hwi : IntKind.i64.wrap ((i : Int) + 1) = ((i + 1 : Nat) : Int) := (by have := HAC.out; rw [IntKind.wrap_i64]; omega);obtain ⟨ga,cap,hgv,-⟩ := owns_block HO1.out (by omega);injection hgv with h1 h2 h3;subst h1;obtain ⟨bq,oq,eq,-,hxc⟩ := ints_row (Sl.of_own' (enc := encI) (fun _ => rfl) HO1.out : Ints W1 (.slice (some ⟨ga,0,none⟩) A.length ac) A) i hlt;cases eq;rw [Nat.zero_add] at hxc;have hti := HTIA.out A[i] (List.getElem_mem hlt)
   have hsn : (A.take (i + 1)).foldl (fun n id => max n (F id)) 0 = max ((A.take i).foldl (fun n id => max n (F id)) 0) (F A[i]) := by
    rw [take_snoc A i hlt,List.foldl_append];rfl
   generalize (A.take i).foldl (fun n id => max n (F id)) 0 = m at hsn ⊢;generalize A[i] = x at hxc hti hsn;generalize F x = y at hti hsn;have HTI := hide (fun X (hX : Ext W X) => hti X (HX.out.trans hX));have HSN := hide hsn;have HXC := hide (fun X (hX : Ext wr X) => cell_ext (HEJ.out.trans hX) hxc);clear hxc hti hsn h2 h3
   go_upto_region 6 with (fail)
   refine wp_region_ro 76 [5,22,23,24,25,26,27,28,29] (fun w' => Ext wr w') (fun (t : Nat) (wI : World) (v : Value) => match t with | 5 => v = (.int .i64 (max m y)) | 22 => v = (.int .i64 m) | 23 => v = (.agg (encC c).toArray) | 24 => v = (.slice (some ⟨ga,0,none⟩) A.length ac) | 25 => v = (.int .i64 (i : Int)) | 26 => v = (.pointer (some ⟨ga,i,none⟩)) | 27 => v = (.int .i64 x) | 28 => v = (.int .i64 y) | 29 => v = (.int .i64 (max m y)) | _ => True) (by kernel_rfl) rfl (by kernel_rfl) (by kernel_rfl) (by kernel_rfl) ?_ ?_ ?_ ?_ ?_
   ·intro t w' w'' v hR hv;exact hv
   ·intro w' w'' h e;exact Ext.trans (show Ext _ w' from h) e
   ·exact zb.drew
   ·intro i o ho X w' hph hI hF K hK;have hin : i < 9 := (zg ho);rcases zo hin with rfl | rfl | rfl | rfl | rfl | rfl | rfl | rfl | rfl
    all_goals first | (exact absurd hmi (by decide)) | (obtain rfl := Option.some.inj ho; unfold wpOp; simp only [ho]; rw [if_pos (by rfl)]; left; rw [frame76])
    ·have e5 : X 5 = (.int .i64 m) := hF 5 (by kernel_rfl);go_simp;refine zm1 hK ((.int .i64 m)) ?_;simp [frame76,Act.put, *]
    ·have e2 : X 2 = (.pointer (some ⟨b2,0,none⟩)) := hF 2 (by kernel_rfl);have hx : Ext W w' := HEW.out.trans hph;refine wp_load_mid 30 (.tmp 2) rfl b2 0 e2 (encC c) cd (BoxC.range (HBX.out w' hx)) hcd1 hcd2 Tryz.confSize (metK (hK.out (.agg (encC c).toArray) _ zb (fun d hd => by cases hd; exact rfl)) ?_);simp [frame76,Act.put, *]
    ·have e6 : X 6 = (.slice (some ⟨ga,0,none⟩) A.length ac) := hF 6 (by kernel_rfl);go_simp;refine zm1 hK ((.slice (some ⟨ga,0,none⟩) A.length ac)) ?_;simp [frame76,Act.put, *]
    ·have e7 : X 7 = (.int .i64 (i : Int)) := hF 7 (by kernel_rfl);go_simp;refine zm1 hK ((.int .i64 (i : Int))) ?_;simp [frame76,Act.put, *]
    ·have e24 : X 24 = _ := zk1 (hI 24);have e25 : X 25 = _ := zk1 (hI 25);go_simp;refine zm1 hK ((.pointer (some ⟨ga,i,none⟩))) ?_;simp [frame76,Act.put, *]
    ·have e26 : X 26 = _ := zk1 (hI 26);have hx : Ext W w' := HEW.out.trans hph;have q1 := HXC.out w' hph;go_simp;refine zm1 hK ((.int .i64 x)) ?_;simp [frame76,Act.put, *]
    ·have e23 : X 23 = _ := zk1 (hI 23);have e27 : X 27 = _ := zk1 (hI 27);have hx : Ext W w' := HEW.out.trans hph;go_simp;refine (HTI.out w' hx).mono ?_;rintro e w9 ⟨rfl,E9⟩;refine metK (hK.out (.int .i64 y) w9 E9 (fun d hd => by cases hd; exact rfl)) ?_;simp [frame76,Act.put, *]
    ·have e22 : X 22 = _ := zk1 (hI 22);have e28 : X 28 = _ := zk1 (hI 28);go_simp;refine zm1 hK ((.int .i64 (max m y))) ?_;simp [frame76,Act.put, *]
    ·have e29 : X 29 = _ := zk1 (hI 29);go_simp;refine zm1 hK ((.int .i64 (max m y))) ?_;simp [frame76,Act.put, *]
   ·intro X w' hph hI;have e5 : X 5 = _ := zk1 (hI 5);have e22 : X 22 = _ := zk1 (hI 22);have e23 : X 23 = _ := zk1 (hI 23);have e24 : X 24 = _ := zk1 (hI 24);have e25 : X 25 = _ := zk1 (hI 25);have e26 : X 26 = _ := zk1 (hI 26);have e27 : X 27 = _ := zk1 (hI 27);have e28 : X 28 = _ := zk1 (hI 28);have e29 : X 29 = _ := zk1 (hI 29);clear hI;simp only [overF,List.foldl_cons,List.foldl_nil,List.setIfInBounds_toArray,List.set_cons_succ,List.set_cons_zero,e5,e22,e23,e24,e25,e26,e27,e28,e29];have hx9 : Ext wr w' := hph;have HE9 := hide (HEJ.out.trans hx9);clear hph hx9 e22 e23 e24 e25 e26 e27 e28 e29;generalize w' = W9 at *;go_wp2
    go_roundw
    case rel => exact ⟨i + 1,hlt,by go_num,by rw [HSN.out],HE9.out⟩
    case measure => simp [intOf] <;> omega
  ·obtain rfl : i = A.length := (by omega);have hltz : ¬ (A.length : Int) < A.length := (by omega);have hmb : 0 <= A.foldl (fun n id => max n (F id)) 0 /\ A.foldl (fun n id => max n (F id)) 0 <= mostN := foldl_bd (g := fun n id => max n (F id)) (fun n id hn => by have := HFB.out id; omega) A 0 ⟨Int.le_refl _,by unfold mostN; omega⟩;rw [List.take_length];obtain ⟨m0,hm0⟩ : ∃ z,A.foldl (fun n id => max n (F id)) 0 = z := ⟨_,rfl⟩;rw [hm0] at hmb ⊢;rw [hm0] at HT;have HMB := hide hmb;have hbx := HBX.out wr HEW.out;obtain ⟨W2,rfl⟩ : ∃ x : World,x = wr := ⟨_,rfl⟩;clear hmb hm0 HO1 HTIA
   go_wp2_with (first | (refine BigFrame.wpList_want (by rfl) fun K hK => ?_; refine wp_load_mid 30 (.tmp 2) rfl b2 0 rfl (encC c) cd hbx.range hcd1 hcd2 Tryz.confSize ?_; refine hK _ _ ?_; simp only [Act.put]))
   refine (HCOP.out W2 (HX.out.trans HEW.out)).mono ?_;rintro e W3 ⟨v3,rfl,ho3,E3⟩;obtain ⟨ca,cc,rfl⟩ := owns_shape ho3;have HO3 := hide ho3;have HE3 := hide (HEW.out.trans E3);clear ho3 E3 hbx HCOP HEJ HEW
   go_wp2_with fail
   clear hltz
   go_loopw [5,8] (fun v5 v8 wr => ∃ i : Nat,i <= C.length /\ v8 = .int .i64 i /\ v5 = .int .i64 ((C.take i).foldl (fun n id => sumM n (F id)) m0) /\ Ext W3 wr) (fun _ i _ => C.length - (intOf i).toNat)
   case atStart => exact ⟨0,Nat.zero_le _,rfl,rfl,zb⟩
   case round =>
    obtain ⟨i,hi,rfl,rfl,hext⟩ := hrel;have HEJ := hide hext;have HEW := hide (HE3.out.trans hext);clear hext;have hmb := foldl_bd (g := fun n id => sumM n (F id)) (fun n id hn => sumM_bd hn.1 (HFB.out id).1) (C.take i) m0 HMB.out;by_cases hlt : i < C.length
    ·have hltz : (i : Int) < C.length := (by omega);have hwi : IntKind.i64.wrap ((i : Int) + 1) = ((i + 1 : Nat) : Int) := (by have := HAC.out; rw [IntKind.wrap_i64]; omega);obtain ⟨gc,cap,hgv,-⟩ := owns_block HO3.out (by omega);injection hgv with h1 h2 h3;subst h1;obtain ⟨bq,oq,eq,-,hxc⟩ := ints_row (Sl.of_own' (enc := encI) (fun _ => rfl) HO3.out : Ints W3 (.slice (some ⟨gc,0,none⟩) C.length cc) C) i hlt;cases eq;rw [Nat.zero_add] at hxc;have hti := HTIC.out C[i] (List.getElem_mem hlt)
     have hsn : (C.take (i + 1)).foldl (fun n id => sumM n (F id)) m0 = sumM ((C.take i).foldl (fun n id => sumM n (F id)) m0) (F C[i]) := by
      rw [take_snoc C i hlt,List.foldl_append];rfl
     have hyb := HFB.out C[i];generalize (C.take i).foldl (fun n id => sumM n (F id)) m0 = m at hsn hmb ⊢;generalize C[i] = x at hxc hti hsn hyb;generalize F x = y at hti hsn hyb;have HTI := hide (fun X (hX : Ext W X) => hti X (HX.out.trans hX));have HSU := hide (fun X => rsum33_any m y X hmb hyb);have HSN := hide hsn;have HXC := hide (fun X (hX : Ext wr X) => cell_ext (HEJ.out.trans hX) hxc);clear hxc hti hsn h2 h3 hmb hyb
     go_upto_region 11 with (fail)
     refine wp_region_ro 76 [5,39,40,41,42,43,44,45,46] (fun w' => Ext wr w') (fun (t : Nat) (wI : World) (v : Value) => match t with | 5 => v = (.int .i64 (sumM m y)) | 39 => v = (.int .i64 m) | 40 => v = (.agg (encC c).toArray) | 41 => v = (.slice (some ⟨gc,0,none⟩) C.length cc) | 42 => v = (.int .i64 (i : Int)) | 43 => v = (.pointer (some ⟨gc,i,none⟩)) | 44 => v = (.int .i64 x) | 45 => v = (.int .i64 y) | 46 => v = (.int .i64 (sumM m y)) | _ => True) (by kernel_rfl) rfl (by kernel_rfl) (by kernel_rfl) (by kernel_rfl) ?_ ?_ ?_ ?_ ?_
     ·intro t w' w'' v hR hv;exact hv
     ·intro w' w'' h e;exact Ext.trans (show Ext _ w' from h) e
     ·exact zb.drew
     ·intro i o ho X w' hph hI hF K hK;have hin : i < 9 := (zg ho);rcases zo hin with rfl | rfl | rfl | rfl | rfl | rfl | rfl | rfl | rfl
      all_goals first | (exact absurd hmi (by decide)) | (obtain rfl := Option.some.inj ho; unfold wpOp; simp only [ho]; rw [if_pos (by rfl)]; left; rw [frame76])
      ·have e5 : X 5 = (.int .i64 m) := hF 5 (by kernel_rfl);go_simp;refine zm1 hK ((.int .i64 m)) ?_;simp [frame76,Act.put, *]
      ·have e2 : X 2 = (.pointer (some ⟨b2,0,none⟩)) := hF 2 (by kernel_rfl);have hx : Ext W w' := HEW.out.trans hph;refine wp_load_mid 30 (.tmp 2) rfl b2 0 e2 (encC c) cd (BoxC.range (HBX.out w' hx)) hcd1 hcd2 Tryz.confSize (metK (hK.out (.agg (encC c).toArray) _ zb (fun d hd => by cases hd; exact rfl)) ?_);simp [frame76,Act.put, *]
      ·have e6 : X 6 = (.slice (some ⟨gc,0,none⟩) C.length cc) := hF 6 (by kernel_rfl);go_simp;refine zm1 hK ((.slice (some ⟨gc,0,none⟩) C.length cc)) ?_;simp [frame76,Act.put, *]
      ·have e8 : X 8 = (.int .i64 (i : Int)) := hF 8 (by kernel_rfl);go_simp;refine zm1 hK ((.int .i64 (i : Int))) ?_;simp [frame76,Act.put, *]
      ·have e41 : X 41 = _ := zk1 (hI 41);have e42 : X 42 = _ := zk1 (hI 42);go_simp;refine zm1 hK ((.pointer (some ⟨gc,i,none⟩))) ?_;simp [frame76,Act.put, *]
      ·have e43 : X 43 = _ := zk1 (hI 43);have hx : Ext W w' := HEW.out.trans hph;have q1 := HXC.out w' hph;go_simp;refine zm1 hK ((.int .i64 x)) ?_;simp [frame76,Act.put, *]
      ·have e40 : X 40 = _ := zk1 (hI 40);have e44 : X 44 = _ := zk1 (hI 44);have hx : Ext W w' := HEW.out.trans hph;go_simp;refine (HTI.out w' hx).mono ?_;rintro e w9 ⟨rfl,E9⟩;refine metK (hK.out (.int .i64 y) w9 E9 (fun d hd => by cases hd; exact rfl)) ?_;simp [frame76,Act.put, *]
      ·have e39 : X 39 = _ := zk1 (hI 39);have e45 : X 45 = _ := zk1 (hI 45);go_simp;refine (HSU.out w').mono ?_;rintro e w9 ⟨rfl,rfl⟩;refine metK (hK.out (.int .i64 (sumM m y)) w' zb (fun d hd => by cases hd; exact rfl)) ?_;simp [frame76,Act.put, *]
      ·have e46 : X 46 = _ := zk1 (hI 46);go_simp;refine zm1 hK ((.int .i64 (sumM m y))) ?_;simp [frame76,Act.put, *]
     ·intro X w' hph hI;have e5 : X 5 = _ := zk1 (hI 5);have e39 : X 39 = _ := zk1 (hI 39);have e40 : X 40 = _ := zk1 (hI 40);have e41 : X 41 = _ := zk1 (hI 41);have e42 : X 42 = _ := zk1 (hI 42);have e43 : X 43 = _ := zk1 (hI 43);have e44 : X 44 = _ := zk1 (hI 44);have e45 : X 45 = _ := zk1 (hI 45);have e46 : X 46 = _ := zk1 (hI 46);clear hI;simp only [overF,List.foldl_cons,List.foldl_nil,List.setIfInBounds_toArray,List.set_cons_succ,List.set_cons_zero,e5,e39,e40,e41,e42,e43,e44,e45,e46];have hx9 : Ext wr w' := hph;have HE9 := hide (HEJ.out.trans hx9);clear hph hx9 e39 e40 e41 e42 e43 e44 e45 e46;generalize w' = W9 at *;go_wp2
      go_roundw
      case rel => exact ⟨i + 1,hlt,by go_num,by rw [HSN.out],HE9.out⟩
      case measure => simp [intOf] <;> omega
    ·obtain rfl : i = C.length := (by omega);have hltz : ¬ (C.length : Int) < C.length := (by omega);rw [List.take_length] at hmb;rw [List.take_length];obtain ⟨m1,hm1⟩ : ∃ z,C.foldl (fun n id => sumM n (F id)) m0 = z := ⟨_,rfl⟩;rw [hm1] at hmb ⊢;rw [hm1] at HT;have HMB1 := hide hmb;have y1 := HCR.out wr HEW.out;obtain ⟨W4,rfl⟩ : ∃ x : World,x = wr := ⟨_,rfl⟩;clear hmb hm1 HO3 HTIC HMB
     go_wp2_with fail
     refine (HON.out W4 (HX.out.trans HEW.out)).mono ?_;rintro e W5 ⟨v5,rfl,hio,E5⟩;obtain ⟨hlo,ia,ic,rfl⟩ := hio.shape;have HIO := hide hio;have HE5 := hide (HEW.out.trans E5);clear hio E5 y1 HON HEJ HEW hltz
     go_wp2_with fail
     go_loopw [9,11] (fun v9 v11 wr => ∃ j : Nat,j <= M.length /\ v11 = .int .i64 j /\ v9 = .int .i64 ((M.take j).foldl tickStep 0) /\ Ext W5 wr) (fun _ j _ => M.length - (intOf j).toNat)
     case atStart => exact ⟨0,Nat.zero_le _,rfl,rfl,zb⟩
     case round =>
      obtain ⟨j,hj,rfl,rfl,hext⟩ := hrel;have HEJ := hide hext;have HEW := hide (HE5.out.trans hext);clear hext;have hjo : (O.length : Int) = M.length := (by rw [HOL.out]);by_cases hltj : j < M.length
      ·have hltjz : (j : Int) < O.length := (by omega);have hwj : IntKind.i64.wrap ((j : Int) + 1) = ((j + 1 : Nat) : Int) := (by have := HLL.out; have := HRL.out; rw [IntKind.wrap_i64]; omega);obtain ⟨q,hq,hoq,hmq⟩ := HOA.out j hltj;have hqz : (q : Int) < c.R.length := (by omega);have hjO : j < O.length := (by omega);obtain ⟨ib,io,rfl,hib,hcq⟩ := ints_row HIO.out j hjO;rw [show O[j] = (q : Int) by have := (List.getElem?_eq_some_iff.1 hoq).2; exact this] at hcq;obtain ⟨rb,ro,rfl,hrb,hcell⟩ := rule_row HRU.out q hq;have hst := tick_at M j hltj;rw [hmq] at hst;generalize (M.take j).foldl tickStep 0 = m at hst ⊢
       have hrg : ∀ X,Ext wr X -> X.rangeAt rb (ro + q * 19 + 5) [.int .i64 c.R[q].ab,.int .i64 c.R[q].de,.int .i64 c.R[q].ti] := fun X hX k v hv => by
        have h3 : (encR c.R[q])[5 + k]? = some v := by
         rcases k with _ | _ | _ | k
         ·exact hv
         ·exact hv
         ·exact hv
         ·simp at hv
        have := hcell (5 + k) v h3;rw [<- Nat.add_assoc] at this;exact cell_ext (HEW.out.trans hX) this
       have HSN := hide (show (M.take (j + 1)).foldl tickStep 0 = if 0 < c.R[q].de then max m c.R[q].ti else m from hst);generalize c.R[q].ab = ab at hrg;generalize c.R[q].de = de at hrg HSN;generalize c.R[q].ti = ti at hrg HSN;have HIR := hide hrg;have HOC := hide (fun X (hX : Ext wr X) => cell_ext (HEJ.out.trans hX) hcq);clear hst hrg hcq hcell hib hrb hoq hmq
       go_upto_region 17 with (fail)
       refine wp_region_rwz 76 [9,10] [12,57,58,59,60,61,62,63,64,65] (PhV0 wr 48 #[.int .i64 0,.int .i64 0,.int .i64 0] [.int .i64 ab,.int .i64 de,.int .i64 ti]) (fun (t : Nat) (wI : World) (v : Value) => match t with | 57 => v = (.pointer (some ⟨b2,2,none⟩)) | 58 => v = (.slice (some ⟨rb,ro,none⟩) c.R.length rcc) | 59 => v = (.slice (some ⟨ib,io,none⟩) O.length ic) | 60 => v = (.int .i64 (j : Int)) | 61 => v = (.pointer (some ⟨ib,io + j,none⟩)) | 62 => v = (.int .i64 (q : Int)) | 63 => v = (.pointer (some ⟨rb,ro + q * 19,none⟩)) | 64 => v = (.pointer (some ⟨rb,ro + q * 19 + 5,none⟩)) | 65 => v = (.agg #[.int .i64 ab,.int .i64 de,.int .i64 ti]) | _ => True) (fun _ _ => True) (by kernel_rfl) rfl (by kernel_rfl) (by kernel_rfl) (by kernel_rfl) (by kernel_rfl) ?_ ?_ ?_ ?_ ?_ ?_ ?_
       ·intro w' w'' h;trivial
       ·intro t w' w'' v hR hv;exact hv
       ·intro vs w' w'' h e;exact h.keep e
       ·exact zb.drew
       ·intro i o ho hmi vs X w' hpk hph hX hI hF K hK;have hin : i < 11 := (zg ho);rcases zo hin with rfl | rfl | rfl | rfl | rfl | rfl | rfl | rfl | rfl | rfl | rfl
        all_goals first | (exact absurd hmi (by decide)) | (obtain rfl := Option.some.inj ho; unfold wpOp; simp only [ho]; rw [if_pos (by rfl)]; left; rw [frame76])
        ·have e2 : X 2 = (.pointer (some ⟨b2,0,none⟩)) := hF 2 (by kernel_rfl);go_simp;refine zm1 hK ((.pointer (some ⟨b2,2,none⟩))) ?_;simp [frame76,Act.put, *]
        ·have e57 : X 57 = _ := zk2 (hI 57);have hx := hph.e;have q1 := HCR.out w' (HEW.out.trans hx);go_simp;refine zm1 hK ((.slice (some ⟨rb,ro,none⟩) c.R.length rcc)) ?_;simp [frame76,Act.put, *]
        ·have e10 : X 10 = (.slice (some ⟨ib,io,none⟩) O.length ic) := hF 10 (by kernel_rfl);go_simp;refine zm1 hK ((.slice (some ⟨ib,io,none⟩) O.length ic)) ?_;simp [frame76,Act.put, *]
        ·have e11 : X 11 = (.int .i64 (j : Int)) := hF 11 (by kernel_rfl);go_simp;refine zm1 hK ((.int .i64 (j : Int))) ?_;simp [frame76,Act.put, *]
        ·have e59 : X 59 = _ := zk2 (hI 59);have e60 : X 60 = _ := zk2 (hI 60);go_simp;refine zm1 hK ((.pointer (some ⟨ib,io + j,none⟩))) ?_;simp [frame76,Act.put, *]
        ·have e61 : X 61 = _ := zk2 (hI 61);have hx := hph.e;have q1 := HOC.out w' hx;go_simp;refine zm1 hK ((.int .i64 (q : Int))) ?_;simp [frame76,Act.put, *]
        ·have e58 : X 58 = _ := zk2 (hI 58);have e62 : X 62 = _ := zk2 (hI 62);go_simp;refine zm1 hK ((.pointer (some ⟨rb,ro + q * 19,none⟩))) ?_;simp [frame76,Act.put, *]
        ·have e63 : X 63 = _ := zk2 (hI 63);go_simp;refine zm1 hK ((.pointer (some ⟨rb,ro + q * 19 + 5,none⟩))) ?_;simp [frame76,Act.put, *]
        ·have e64 : X 64 = _ := zk2 (hI 64);have hx := hph.e;refine wp_load_mid 48 (.tmp 64) rfl rb (ro + q * 19 + 5) e64 [.int .i64 ab,.int .i64 de,.int .i64 ti] jd (HIR.out w' hx) hjd1 hjd2 Tryz.injSize (metK (hK.out (.agg #[.int .i64 ab,.int .i64 de,.int .i64 ti]) _ zb (fun d hd => by cases hd; exact rfl)) ?_);simp [frame76,Act.put, *]
       ·intro i o ho hmi vs X w' hqi hql hph hX hI hF K hK;rcases vs with _ | ⟨v0,_ | ⟨v1,_⟩⟩
        ·obtain rfl : 9 = i := hqi;obtain rfl := Option.some.inj ho;have hx : Ext wr w' := hph;unfold wpOp;simp only [ho];rw [if_pos (by rfl)];left;rw [frame76];go_simp;refine metK (hK.out (.pointer (some ⟨w'.heap.size,0,none⟩)) (w'.alloc (.cells #[.int .i64 0,.int .i64 0,.int .i64 0] 48)) ⟨hx.trans za,w'.heap.size,rfl,hx.size,heap_alloc_new _ _⟩ trivial) ?_;simp [frame76,Act.put, *]
        ·obtain rfl : 10 = i := hqi;obtain rfl := Option.some.inj ho;have e12 : X 12 = v0 := hX 0 12 (by simp) (by kernel_rfl);have e65 : X 65 = _ := zk2 (hI 65);obtain ⟨hx,b,rfl,hge,hb⟩ := hph;unfold wpOp;simp only [ho];rw [if_pos (by rfl)];left;rw [frame76];refine wp_store_mid 48 (.tmp 12) (.tmp 65) rfl b 0 #[.int .i64 ab,.int .i64 de,.int .i64 ti] (by simp [Act.eval, *]) (by simp [Act.eval, *]) (there_cells hb rfl) Tryz.injSize (by simp [Value.oneCell']) ?_;refine metK (hK.out undef _ ⟨Keeps.ext hx (keeps_setCellsG b [.int .i64 ab,.int .i64 de,.int .i64 ti] 0 w') (fun q hq => by rw [hq]; exact hge),b,rfl,hge,set_cells hb rfl⟩ trivial) ?_;simp [frame76,Act.put, *]
        ·simp at hql <;> omega
       ·intro vs X w' hlen hph hX hI;have e57 : X 57 = _ := zk4 (hI 57);have e58 : X 58 = _ := zk4 (hI 58);have e59 : X 59 = _ := zk4 (hI 59);have e60 : X 60 = _ := zk4 (hI 60);have e61 : X 61 = _ := zk4 (hI 61);have e62 : X 62 = _ := zk4 (hI 62);have e63 : X 63 = _ := zk4 (hI 63);have e64 : X 64 = _ := zk4 (hI 64);have e65 : X 65 = _ := zk4 (hI 65);rcases vs with _ | ⟨v0,_ | ⟨v1,_ | ⟨vz,vs⟩⟩⟩
        ·simp at hlen
        ·simp at hlen
        rotate_left
        ·simp at hlen
        have e12 : X 12 = v0 := hX 0 12 (by simp) (by kernel_rfl);clear hX hI hlen;simp only [overF,List.foldl_cons,List.foldl_nil,List.setIfInBounds_toArray,List.set_cons_succ,List.set_cons_zero,e12,e57,e58,e59,e60,e61,e62,e63,e64,e65];obtain ⟨hx9,b,rfl,hge,hb⟩ := hph;have y1 : w'.cell? ⟨b,1,none⟩ = some (.int .i64 de) := cell_box hb 1 _ rfl;have y2 : w'.cell? ⟨b,2,none⟩ = some (.int .i64 ti) := cell_box hb 2 _ rfl;have HE9 := hide (HEJ.out.trans hx9);clear hx9 hb hge e57 e58 e59 e60 e61 e62 e63 e64 e65;generalize w' = W9 at *;by_cases hde : 0 < de
        ·have hded : decide (0 < de) = true := decide_eq_true hde;have HST := hide (HSN.out.trans (if_pos hde));go_wp2
         go_roundw
         case rel => exact ⟨j + 1,hltj,by go_num,by rw [HST.out],HE9.out⟩
         case measure => simp [intOf] <;> omega
        ·have hded : decide (0 < de) = false := decide_eq_false hde;have HST := hide (HSN.out.trans (if_neg hde));go_wp2
         go_roundw
         case rel => exact ⟨j + 1,hltj,by go_num,by rw [HST.out],HE9.out⟩
         case measure => simp [intOf] <;> omega
      ·obtain rfl : j = M.length := (by omega);have hltjz : ¬ ((M.length : Nat) : Int) < O.length := (by omega);rw [List.take_length];have htk := HTK.out;obtain ⟨tk,htke⟩ : ∃ z,M.foldl tickStep 0 = z := ⟨_,rfl⟩;rw [htke] at htk ⊢;rw [htke] at HT;have HSU := hide (rsum33_any m1 tk wr HMB1.out htk);have HZ := hide (HX.out.trans HEW.out);clear htk htke
       go_wp2_with fail
       refine HSU.out.mono ?_;rintro e w9 ⟨rfl,rfl⟩
       go_wp2_with fail
       go_ret;exact ⟨by rw [<- HT.out]; rfl,HZ.out⟩
theorem rTime_any (c : ConfD) : ∀ f,TimeOk c f
 | 0 => fun _ _ _ _ hd => absurd hd id
 | f + 1 => rTime_step (rTime_any c f)
theorem rcalls_any (c : ConfD) (p : ByteArray) (id : Int) (w : World) (h : GC w c) (hp : SzB p) :
  Calls Tryz.prog 45 #[.agg (encC c).toArray,.string p,.int .i64 id] w fun e w' => e = .returned (.int .i64 (callsN c p id)) /\ Ext w w' := by
 obtain ⟨cd,hcd1,hcd2⟩ := Tryz.confDesc;obtain ⟨ad,had1,had2⟩ := Tryz.desc11;have hx : Ext w (w.alloc (.cells (encC c).toArray 30)) := za;have hb1 : BoxC (w.alloc (.cells (encC c).toArray 30)) w.heap.size c := heap_alloc_new w (.cells (encC c).toArray 30);have hlv0 := fun X (hX : Ext w X) => levels_any c id 10 X (h.ext hX) (by omega);have hlv : ∀ X,Ext w X -> Calls Tryz.prog 35 #[.agg (encC c).toArray,.int .i64 id,.int .i64 10] X fun e w' => e = .returned (.agg (row11 (fun i => lvl (kidsG c) id 10 i)).toArray) /\ Ext X w' := hlv0;have hse := fun X (hX : Ext w X) => rser_any c p X (h.ext hX) hp;have hco := fun X (hX : Ext w X) => rcop_any c p X (h.ext hX) hp;have hac := targ_len h.chk p;have hfa : ∀ x ∈ targS c.R p,1 <= x /\ x <= 10 := fun x hx => targ_fit h.chk p x (List.mem_append_left _ hx);have hfc : ∀ x ∈ targC c.R p,1 <= x /\ x <= 10 := fun x hx => targ_fit h.chk p x (List.mem_append_right _ hx);have hT : callsN c p id = (targC c.R p).foldl (fun n x => sumM n (lvl (kidsG c) id 10 x)) (great (targS c.R p) (lvl (kidsG c) id 10)) := rfl;obtain ⟨R,hR⟩ : ∃ R,callsN c p id = R := ⟨_,rfl⟩;rw [hR] at hT ⊢;generalize targS c.R p = A at hse hac hfa hT;generalize targC c.R p = C at hco hac hfc hT;have hgb := fun x => lvl_bd (kidsG c) id 10 x;generalize lvl (kidsG c) id 10 = g at hlv hT hgb;obtain ⟨f,hf⟩ : ∃ f : Nat -> Int,(fun i : Nat => g (i : Int)) = f := ⟨_,rfl⟩;have hfg : ∀ q : Nat,f q = g (q : Int) := fun q => by rw [<- hf]
 have hga : great A g = great A (fun x => f x.toNat) := great_congr _ 0 fun x hx => by
  have := hfa x hx;rw [hfg,Int.toNat_of_nonneg (by omega)]
 have hyb : 0 <= great A g /\ great A g <= mostN := ⟨great_nn _ _,great_le_of _ 0 (by decide) fun x _ => (hgb x).2⟩;have hlv2 : ∀ X,Ext w X -> Calls Tryz.prog 35 #[.agg (encC c).toArray,.int .i64 id,.int .i64 10] X fun e w' => e = .returned (.agg (row11 f).toArray) /\ Ext X w' := by rw [<- hf]; exact hlv
 have hgr := fun (v : Value) X (hi : Ints X v A) => rgreat_any f A v X hi hfa;rw [<- hga] at hgr;generalize great A g = y at hT hyb hgr;have HLV := hide hlv2;have HSER0 := hide hse;have HCOP0 := hide hco;have HGR := hide hgr;have HYB := hide hyb;have HGB := hide hgb;have HFG := hide hfg;have HCB := hide hfc;have HCL := hide hac.2;have HRE := hide hT;clear h hp hlv0 hlv hlv2 hse hco hac hfa hfc hT hR hgb hf hfg hga hyb hgr
 go_enter Tryz.func45,Tryz.ntmps45
 go_upto_region 1 with (fail)
 show Code.wp _ _ _ _ (w.alloc (.cells (encC c).toArray 30));generalize w.alloc (.cells (encC c).toArray 30) = W at hx hb1 ⊢;obtain ⟨b3,hbn⟩ : ∃ b,w.heap.size = b := ⟨_,rfl⟩;rw [hbn] at hb1 ⊢;have HX := hide hx;have HBX := hide (fun X (hX : Ext W X) => BoxC.ext hb1 hX);clear hx hb1 hbn;have hbx := HBX.out W zb;refine wp_region_lit ?_;refine wpList_load_mid rfl 30 (.tmp 3) rfl b3 0 rfl (encC c) cd hbx.range hcd1 hcd2 Tryz.confSize ?_;refine wpList_plain rfl fun Kq hKq => ?_;go_simp;refine hKq _ _ ?_;clear hKq Kq;refine wpList_plain rfl fun Kq hKq => ?_;go_simp;refine (HLV.out W HX.out).mono ?_;rintro e W1 ⟨rfl,E1⟩;refine hKq _ _ ?_;clear hKq Kq;refine wpList_box rfl 74 rfl rfl (.tmp 7) (.tmp 13) rfl (row11 f) _ alloc11 rfl rfl rfl Tryz.size11 (row11_one _) ?_;intro W2 hb7 E2;obtain ⟨b7,hb7n⟩ : ∃ b,W1.heap.size = b := ⟨_,rfl⟩;rw [hb7n] at hb7 ⊢;have HE2 := hide (E1.trans E2);have HB7 := hide (fun X (hX : Ext W2 X) => Arr11.ext (show Arr11 W2 b7 f from hb7) hX);have HSER := hide (fun X (hX : Ext W2 X) => HSER0.out X (HX.out.trans (HE2.out.trans hX)));have HCOP := hide (fun X (hX : Ext W X) => HCOP0.out X (HX.out.trans hX));clear hb7 hb7n E1 E2 hbx;refine wpList_nil ?_;simp only [Act.put]
 go_upto_region 2 with (fail)
 refine wp_region_ro 37 [8,14,15,16,17,18] (fun w' => Ext W2 w') (fun (t : Nat) (wI : World) (v : Value) => match t with | 8 => v = (.int .i64 y) | 14 => v = (.agg (row11 f).toArray) | 15 => v = (.agg (encC c).toArray) | 16 => v = (.string p) | 17 => ∃ a cc,v = .slice a A.length cc /\ Ints wI v A | 18 => v = (.int .i64 y) | _ => True) (by kernel_rfl) rfl (by kernel_rfl) (by kernel_rfl) (by kernel_rfl) ?_ ?_ ?_ ?_ ?_
 ·intro t w' w'' v hR hv;split at hv <;> first | exact hv | (obtain ⟨a,cc,h1,h2⟩ := hv; exact ⟨a,cc,h1,h2.ext hR⟩)
 ·intro w' w'' h e;exact Ext.trans (show Ext _ w' from h) e
 ·exact zb.drew
 ·intro i o ho X w' hph hI hF K hK;have hin : i < 6 := (zg ho);rcases zo hin with rfl | rfl | rfl | rfl | rfl | rfl
  all_goals first | (exact absurd hmi (by decide)) | (obtain rfl := Option.some.inj ho; unfold wpOp; simp only [ho]; rw [if_pos (by rfl)]; left; rw [frame37])
  ·have e7 : X 7 = (.pointer (some ⟨b7,0,none⟩)) := hF 7 (by kernel_rfl);have hx : Ext W2 w' := hph;refine wp_load_mid 74 (.tmp 7) rfl b7 0 e7 (row11 f) ad (Arr11.range (HB7.out w' hx)) had1 had2 Tryz.size11 (metK (hK.out (.agg (row11 f).toArray) _ zb (fun d hd => by cases hd; exact rfl)) ?_);simp [frame37,Act.put, *]
  ·have e3 : X 3 = (.pointer (some ⟨b3,0,none⟩)) := hF 3 (by kernel_rfl);have hx : Ext W2 w' := hph;refine wp_load_mid 30 (.tmp 3) rfl b3 0 e3 (encC c) cd (BoxC.range (HBX.out w' (HE2.out.trans hx))) hcd1 hcd2 Tryz.confSize (metK (hK.out (.agg (encC c).toArray) _ zb (fun d hd => by cases hd; exact rfl)) ?_);simp [frame37,Act.put, *]
  ·have e1 : X 1 = (.string p) := hF 1 (by kernel_rfl);go_simp;refine zm1 hK ((.string p)) ?_;simp [frame37,Act.put, *]
  ·have e15 : X 15 = _ := zk1 (hI 15);have e16 : X 16 = _ := zk1 (hI 16);have hx : Ext W2 w' := hph;go_simp;refine (HSER.out w' hx).mono ?_;rintro e w9 ⟨u9,rfl,ho9,E9⟩;obtain ⟨ua,uc,rfl⟩ := owns_shape ho9;refine metK (hK.out (.slice ua A.length uc) w9 E9 (fun d hd => by cases hd; exact ⟨ua,uc,rfl,Sl.of_own' (enc := encI) (fun _ => rfl) ho9⟩)) ?_;simp [frame37,Act.put, *]
  ·have e14 : X 14 = _ := zk1 (hI 14);have y17 := zk1 (hI 17);obtain ⟨ua,uc,e17,hi9⟩ := y17;rw [e17] at hi9;go_simp;refine (HGR.out _ w' hi9).mono ?_;rintro e w9 ⟨rfl,E9⟩;refine metK (hK.out (.int .i64 y) w9 E9 (fun d hd => by cases hd; exact rfl)) ?_;simp [frame37,Act.put, *]
  ·have e18 : X 18 = _ := zk1 (hI 18);go_simp;refine zm1 hK ((.int .i64 y)) ?_;simp [frame37,Act.put, *]
 ·intro X w' hph hI;have e8 : X 8 = _ := zk1 (hI 8);have e14 : X 14 = _ := zk1 (hI 14);have e15 : X 15 = _ := zk1 (hI 15);have e16 : X 16 = _ := zk1 (hI 16);have y17 := zk1 (hI 17);have e18 : X 18 = _ := zk1 (hI 18);clear hI;simp only [overF,List.foldl_cons,List.foldl_nil,List.setIfInBounds_toArray,List.set_cons_succ,List.set_cons_zero,e8,e14,e15,e16,e18];have hx9 : Ext W2 w' := hph;have HE3 := hide (HE2.out.trans hx9);have HB7b := hide (fun X (hX : Ext w' X) => HB7.out X (hx9.trans hX));clear hph hx9 y17 e14 e15 e16 e18;generalize X 17 = u17;generalize w' = W3 at *;have hbx := HBX.out W3 HE3.out
  go_wp2_with (first | (refine BigFrame.wpList_want (by rfl) fun K hK => ?_; refine wp_load_mid 30 (.tmp 3) rfl b3 0 rfl (encC c) cd hbx.range hcd1 hcd2 Tryz.confSize ?_; refine hK _ _ ?_; simp only [Act.put]))
  refine (HCOP.out W3 HE3.out).mono ?_;rintro e W4 ⟨v9,rfl,ho9,E4⟩;obtain ⟨ca,cc,rfl⟩ := owns_shape ho9;have HO9 := hide ho9;have HE4 := hide E4;clear ho9 E4 hbx
  go_wp2_with fail
  go_loopw [8,10] (fun v8 v10 wr => ∃ i : Nat,i <= C.length /\ v10 = .int .i64 i /\ v8 = .int .i64 ((C.take i).foldl (fun n x => sumM n (g x)) y) /\ wr = W4) (fun _ i _ => C.length - (intOf i).toNat)
  case atStart => exact ⟨0,Nat.zero_le _,rfl,rfl,rfl⟩
  case round =>
   obtain ⟨i,hi,rfl,rfl,rfl⟩ := hrel;by_cases hlt : i < C.length
   ·have hltz : (i : Int) < C.length := (by omega);have hwi : IntKind.i64.wrap ((i : Int) + 1) = ((i + 1 : Nat) : Int) := (by have := HCL.out; rw [IntKind.wrap_i64]; omega);obtain ⟨cb,co,rfl,-,hcc⟩ := ints_row (Sl.of_own' (enc := encI) (fun _ => rfl) HO9.out : Ints wr (.slice ca C.length cc) C) i hlt;have hbd := HCB.out C[i] (List.getElem_mem hlt)
    have hsn : (C.take (i + 1)).foldl (fun n x => sumM n (g x)) y = sumM ((C.take i).foldl (fun n x => sumM n (g x)) y) (g C[i]) := by
     rw [take_snoc C i hlt,List.foldl_append];rfl
    have hmb := foldl_bd (g := fun n x => sumM n (g x)) (fun n x hn => sumM_bd hn.1 (HGB.out x).1) (C.take i) y HYB.out;generalize (C.take i).foldl (fun n x => sumM n (g x)) y = m at hsn hmb ⊢;generalize C[i] = x at hcc hbd hsn;obtain ⟨q,rfl⟩ : ∃ q : Nat,x = q := ⟨x.toNat,by omega⟩;have hq : q < 11 := (by omega);have hqz : (q : Int) < 11 := (by omega);have hc7 := (HB7b.out wr HE4.out).cell hq;rw [show f q = g (q : Int) from HFG.out q] at hc7;have hgb := HGB.out (q : Int);have HSU := hide (rsum33_any m (g (q : Int)) wr hmb hgb);have HSN := hide hsn;generalize g (q : Int) = z at hc7 HSU HSN;clear hbd hsn hmb hgb
    go_wp2_with fail
    refine HSU.out.mono ?_;rintro e w9 ⟨rfl,rfl⟩;clear hc7 hcc;go_wp2
    go_roundw
    case rel => exact ⟨i + 1,hlt,by go_num,by rw [HSN.out],by first | rfl | trivial⟩
    case measure => simp [intOf] <;> omega
   ·obtain rfl : i = C.length := (by omega);have hltz : ¬ (C.length : Int) < C.length := (by omega);have HRE2 := hide (HRE.out);rw [List.take_length];have HZ := hide (HX.out.trans (HE3.out.trans HE4.out));go_wp2;go_ret;exact ⟨by rw [<- HRE2.out]; rfl,HZ.out⟩
end Go.Proofs.YtceaeiaoanhlnaaGreatDoor
