/- Lemmas. -/
import Derived.Test.YtoaiakhnnfbkdaaGreatDoorZbo
import Derived.Test.YtoaiakhnnfbkdaaGreatDoorSnE
import Derived.Test.YtoaiakhnnfbkdaaGreatDoorZdd
import Derived.Test.YtoaiakhnnfbkdaaGreatDoorRkE
import Derived.Test.YtoaiakhnnfbkdaaGreatDoorSkF
import Derived.Test.YtoaiakhnnfbkdaaGreatDoorZrw
set_option maxRecDepth 100000
set_option maxHeartbeats 32000000
namespace Go.Proofs.YtoaiakhnnfbkdaaGreatDoor
open Go.ChangeShapes Go.WideShapes Go.ChangeAt Go.RowKit Go.Lib Go.Shelf Go.Maps
def BtL (B : Nat) (c : ConfD) (vs : List Value) (w : World) (v : Value) : Prop := ∃ d : ConfD,v = d.val /\ ConfOwn B w d /\ ConfFit d /\ ∀ x : ConfD,vs = [x.val] -> ∀ g,x.tv.ownBlock = some g -> d.tv.ownBlock = some g -> c.tv.ownBlock = some g
def BtPh (B : Nat) (c : ConfD) (W : World) : List Value -> World -> Prop
 | [],w => Ext W w
 | [v],w => Ext W w /\ ∃ d : ConfD,v = d.val /\ ConfOwn B w d /\ ConfFit d /\ BnLen d /\ ∀ g,d.tv.ownBlock = some g -> (c.tv.ownBlock = some g /\ TvF d) \/ W.heap.size <= g
 | [_,u],w => Ext W w /\ ∃ d : ConfD,u = d.val /\ ConfOwn B w d /\ ConfFit d
 | _,_ => False
section
variable {B : Nat} {c : ConfD} {W w w' : World} {v : Value} {vs : List Value}
theorem ConfD.val_tv {x y : ConfD} (h : x.val = y.val) : x.tv = y.tv := by
 unfold ConfD.val at h;injection h with h;injection h with h;simp only [List.cons.injEq] at h;exact h.2.2.2.1
theorem BtPh.ext : ∀ {vs : List Value},BtPh B c W vs w -> Ext w w' -> BtPh B c W vs w'
 | [],h,e => Ext.trans (show Ext W w from h) e
 | [_],⟨h1,d,h2,h3,h4⟩,e => ⟨h1.trans e,d,h2,h3.ext e,h4⟩
 | [_,_],⟨h1,d,h2,h3,h4⟩,e => ⟨h1.trans e,d,h2,h3.ext e,h4⟩
 | _ :: _ :: _ :: _,h,_ => h.elim
theorem BtPh.base : ∀ {vs : List Value},BtPh B c W vs w -> Ext W w
 | [],h => h
 | [_],⟨h1,_⟩ => h1
 | [_,_],⟨h1,_⟩ => h1
 | _ :: _ :: _ :: _,h => h.elim
theorem BtL.ext (h : BtL B c vs w v) (e : Ext w w') : BtL B c vs w' v := by
 obtain ⟨d,h1,h2,h3,h4⟩ := h;exact ⟨d,h1,h2.ext e,h3,h4⟩
theorem BtL.made {d : ConfD} (hp : BtPh B c W vs w) (ho : ConfOwn B w' d) (hf : ConfFit d) (ht : ftX c d w) : BtL B c vs w' d.val := by
 refine ⟨d,rfl,ho,hf,fun x hx g hg hd => ?_⟩;subst hx;obtain ⟨-,y,h1,h2,-⟩ := hp;have hy : g < w.heap.size := (h2.t.lt g (by rw [<- ConfD.val_tv h1]; exact hg)).2;rcases ht g hd with h | h
 ·exact h.1
 ·omega
theorem BtL.step {x : ConfD} (h : BtL B c [] w v) (e : Ext w w') (ht : ftX c x w) : BtL B c [x.val] w' v := by
 obtain ⟨d,h1,h2,h3,-⟩ := h;refine ⟨d,h1,h2.ext e,h3,fun y hy g hg hd => ?_⟩;have hy' : x.val = y.val := by simpa using hy
 have hlt := (h2.t.lt g hd).2;rcases ht g (by rw [ConfD.val_tv hy']; exact hg) with k | k
 ·exact k.1
 ·omega
theorem tvX_of {d : ConfD} (h : ConfOwn B w d) : OfT w (tvX d) 55 := fun g hg => OfT.own h.t g hg.1
theorem BtL.turn {x : ConfD} {u : Value} (h : BtL B c [x.val] w v) (hx : ConfOwn B w x) (hk : Keeps (tvX x) w w') (hw : ∀ g,x.tv.ownBlock = some g -> (c.tv.ownBlock = some g /\ TvF x) \/ W.heap.size <= g) (hc : ∀ g,c.tv.ownBlock = some g -> g < W.heap.size) : BtL B c [x.val,u] w' v := by
 obtain ⟨d,h1,h2,h3,h4⟩ := h;have hof := tvX_of hx;refine ⟨d,h1,⟨owns_keepT h2.s hk hof (by decide),fun s hs => owns_keepT (h2.k s hs) hk hof (by decide),owns_keepT h2.e hk hof (by decide),owns_keepT h2.r hk hof (by decide),fun r hr => (h2.rr r hr).keepT hk hof (by decide) (by decide) (by decide),owns_keeps h2.t hk fun g hg hX => ?_⟩,h3,fun y hy => absurd (congrArg List.length hy) (by simp)⟩;have hg2 := h4 x rfl g hX.1 hg;rcases hw g hX.1 with k | k
 ·exact hX.2 k.2
 ·have := hc g hg2;omega
theorem keeps_none {X : Nat -> Prop} (h : Keeps X w w') (hX : ∀ g,¬ X g) : Ext w w' := Keeps.ext zb h (fun g hg => absurd hg (hX g))
theorem bent_ext {d : ConfD} (h : Keeps (tvX c) w w') (hc : TvF c) : Ext w w' := keeps_none h fun _ hg => hg.2 hc
theorem BnCnt.len {d : ConfD} {m q : Nat} (h : BnCnt c d m q) (hs : c.S.length <= 400) (he : c.E.length <= 400) (ht : c.T.length <= 400) (hr : c.R.length <= 400) (h1 : 0 < d.S.length) (h2 : 0 < d.E.length) (h3 : 0 < d.R.length) : BnLen d := by
 obtain ⟨k1,⟨k2,k3⟩,k4,k5,-⟩ := h;exact ⟨by omega,by omega,by omega,by omega,h1,h2,h3⟩
def AllAt (B : Nat) (vs : List Value) (w : World) (v : Value) : Prop := vs.length = 2 /\ ∃ (a : Option Addr) (D : List ConfD),D.length = 4 /\ v = .slice a 4 4 /\ Confs w v D /\ ∀ d ∈ D,ConfOwn B w d /\ ConfFit d
theorem AllAt.ext (h : AllAt B vs w v) (e : Ext w w') : AllAt B vs w' v := by
 obtain ⟨h0,a,D,h1,h2,h3,h4⟩ := h;exact ⟨h0,a,D,h1,h2,h3.ext e,fun d hd => ⟨(h4 d hd).1.ext e,(h4 d hd).2⟩⟩
theorem AllAt.made {d1 d2 d3 : ConfD} (hv : vs.length = 2) (h0 : ConfOwn B w c) (f0 : ConfFit c) (h1 : ConfOwn B w d1) (f1 : ConfFit d1) (h2 : ConfOwn B w d2) (f2 : ConfFit d2) (h3 : ConfOwn B w d3) (f3 : ConfFit d3) (hB : B <= w.heap.size) :
  AllAt B vs (w.alloc (.cells (encC c ++ encC d1 ++ encC d2 ++ encC d3).toArray 30)) (.slice (some ⟨w.heap.size,0,none⟩) 4 4) := by
 have hE : Ext w (w.alloc (.cells (encC c ++ encC d1 ++ encC d2 ++ encC d3).toArray 30)) := za;have hl := World.ownsRow_lit (base := B) (e := 30) (size := 20) w (encC c ++ encC d1 ++ encC d2 ++ encC d3).toArray 4 hB (by unfold maxLen; omega) rfl;refine ⟨hv,_,[c,d1,d2,d3],rfl,rfl,Sl.of_own' encC_len (e := 30) (base := B) (by simpa using hl),fun d hd => ?_⟩;simp only [List.mem_cons,List.not_mem_nil,or_false] at hd;rcases hd with rfl | rfl | rfl | rfl
 ·exact ⟨h0.ext hE,f0⟩
 ·exact ⟨h1.ext hE,f1⟩
 ·exact ⟨h2.ext hE,f2⟩
 ·exact ⟨h3.ext hE,f3⟩
def BtQ (B : Nat) (c : ConfD) (W : World) : List Value -> World -> Prop
 | [],w => BtPh B c W [] w
 | [a],w => BtPh B c W [] w /\ BtL B c [] w a
 | [a,b],w => BtPh B c W [] w /\ BtL B c [] w a /\ BtL B c [] w b
 | [a,b,v],w => BtPh B c W [v] w /\ BtL B c [v] w a /\ BtL B c [v] w b
 | [a,b,v,u],w => BtPh B c W [v,u] w /\ BtL B c [v,u] w a /\ BtL B c [v,u] w b
 | [_,_,_,_,s],w => Ext W w /\ AllAt B [undef,undef] w s
 | [_,_,_,_,_,s],w => Ext W w /\ AllAt B [undef,undef] w s
 | _,_ => False
theorem BtQ.ext : ∀ {vs : List Value},BtQ B c W vs w -> Ext w w' -> BtQ B c W vs w'
 | [],h,e => BtPh.ext (B := B) (c := c) (W := W) (vs := []) h e
 | [_],⟨h1,h2⟩,e => ⟨h1.ext e,h2.ext e⟩
 | [_,_],⟨h1,h2,h3⟩,e => ⟨h1.ext e,h2.ext e,h3.ext e⟩
 | [_,_,_],⟨h1,h2,h3⟩,e => ⟨h1.ext e,h2.ext e,h3.ext e⟩
 | [_,_,_,_],⟨h1,h2,h3⟩,e => ⟨h1.ext e,h2.ext e,h3.ext e⟩
 | [_,_,_,_,_],⟨h1,h2⟩,e => ⟨Ext.trans h1 e,h2.ext e⟩
 | [_,_,_,_,_,_],⟨h1,h2⟩,e => ⟨Ext.trans h1 e,h2.ext e⟩
 | _ :: _ :: _ :: _ :: _ :: _ :: _ :: _,h,_ => h.elim
theorem BtQ.base : ∀ {vs : List Value},BtQ B c W vs w -> Ext W w
 | [],h => h
 | [_],⟨h1,_⟩ => h1.base
 | [_,_],⟨h1,_⟩ => h1.base
 | [_,_,_],⟨h1,_⟩ => h1.base
 | [_,_,_,_],⟨h1,_⟩ => h1.base
 | [_,_,_,_,_],⟨h1,_⟩ => h1
 | [_,_,_,_,_,_],⟨h1,_⟩ => h1
 | _ :: _ :: _ :: _ :: _ :: _ :: _ :: _,h => h.elim
theorem confs_at {a : Option Addr} {n cap : Nat} {xs : List ConfD} (h : Confs w (.slice a n cap) xs) (i : Nat) (hi : i < xs.length) :
  ∃ b off,a = some ⟨b,off,none⟩ /\ b < w.heap.size /\ w.rangeAt b (off + i * 20) (encC xs[i]) := by
 obtain ⟨_,a',cap',hv,_,hc⟩ := h;cases hv;obtain ⟨b,off,h1,h2,h3⟩ := hc i xs[i] (List.getElem?_eq_getElem hi);exact ⟨b,off,h1,h2,fun j u hu => h3 j u hu⟩
theorem SnapAt.c0 {b : Nat} {ver : Int} (h : SnapAt B w b ver c) : w.cell? ⟨b,0,none⟩ = some (.int .i64 ver) := by
 obtain ⟨d,bt,bs,br,nb,Rs,g,h,-⟩ := h;exact h.box.cell 0 _ rfl
end
theorem run_allC (w : World) (c d1 d2 d3 : ConfD) : (Instr.buildSlice 34 4 #[(0,c.val),(1,d1.val),(2,d2.val),(3,d3.val)]).run Tryz.prog w = .ok (.slice (some ⟨w.heap.size,0,none⟩) 4 4) (w.alloc (.cells (encC c ++ encC d1 ++ encC d2 ++ encC d3).toArray 30)) := by kernel_rfl
theorem gen_len40 {c : ConfD} {L : List Int} (h : c.core = genC L) : BnLen c /\ c.S.length <= 400 /\ c.E.length <= 400 /\ c.T.length <= 400 /\ c.R.length <= 400 := by
 have hg := good_conf h;obtain ⟨h1,h2,h3,-,-,h6,-⟩ := chkC_ends hg.2.1;have h7 := (nerr_zero h6).1
 have e1 : c.S.length = (svcsN L (svcsM L)).length := by
  have := congrArg (fun c : ConfD => c.S.length) h;simpa [ConfD.core,genC] using this
 have e2 : c.E.length = (endsA L (svcsM L) ++ endsZ L (svcsM L) (endsM L)).length := by
  have := congrArg (fun c : ConfD => c.E.length) h;simpa [ConfD.core,genC] using this
 have e3 : c.R.length = (rulesC L (svcsM L) (numR L)).length + 1 := by
  have := congrArg (fun c : ConfD => c.R.length) h;simpa [ConfD.core,genC] using this
 have m1 : 1 <= svcsM L := by unfold svcsM; omega
 rw [svcsN_len] at e1;rw [List.length_append,endsA_len,endsZ_len] at e2;exact ⟨⟨by omega,by omega,by omega,by omega,by omega,by omega,by omega⟩,by omega,by omega,by omega,by omega⟩
theorem frame91 (x : Nat -> Value) : frameOf 91 x = #[x 0,x 1,x 2,x 3,x 4,x 5,x 6,x 7,x 8,x 9,x 10,x 11,x 12,x 13,x 14,x 15,x 16,x 17,x 18,x 19,x 20,x 21,x 22,x 23,x 24,x 25,x 26,x 27,x 28,x 29,x 30,x 31,x 32,x 33,x 34,x 35,x 36,x 37,x 38,x 39,x 40,x 41,x 42,x 43,x 44,x 45,x 46,x 47,x 48,x 49,x 50,x 51,x 52,x 53,x 54,x 55,x 56,x 57,x 58,x 59,x 60,x 61,x 62,x 63,x 64,x 65,x 66,x 67,x 68,x 69,x 70,x 71,x 72,x 73,x 74,x 75,x 76,x 77,x 78,x 79,x 80,x 81,x 82,x 83,x 84,x 85,x 86,x 87,x 88,x 89,x 90] := rfl
theorem checks_walk (L0 : List Int) (v : Value) (how n other : Int) (w : World) (hs : Ints w v L0) (hL : ∀ x ∈ L0,I64 x) (hhow : I64 how) (hn : I64 n) (hoth : I64 other) (hm : MaxV w) :
  Calls Tryz.prog 3 #[v,.int .i64 how,.int .i64 n,.int .i64 other] w fun e w' => e = .returned (.bool true) /\ Ext w w' := by
 obtain ⟨cd,hcd1,hcd2⟩ := Tryz.confDesc;obtain ⟨hl63,a,cap,rfl⟩ := hs.shape;have HM := hide hm;have HS := hide hs;have HL0 := hide hL;have hr1 := around_bd n 103 (by decide);have har := fun X => around_any n 103 X hn (by omega);obtain ⟨r,hr⟩ : ∃ r : Int,around n 103 = r := ⟨_,rfl⟩;rw [hr] at hr1;simp only [hr] at har;have HAR := hide har;have hwk : IntKind.i64.wrap (r - 1) = r - 1 := by rw [IntKind.wrap_i64]; omega
 obtain ⟨k,hk⟩ : ∃ k : Int,r - 1 = k := ⟨_,rfl⟩;rw [hk] at hwk;have HI := hide (show I64 how /\ I64 n /\ I64 other /\ I64 k from ⟨hhow,hn,hoth,by constructor <;> omega⟩)
 clear hm hs hL hhow hn hoth har hr
 go_enter Tryz.func3,Tryz.ntmps3
 go_wp2_with fail
 refine (conf_any L0 _ w HS.out HL0.out).mono ?_;rintro e W1 ⟨c,rfl,hc,ho,E1,htv⟩;have G := hide (good_conf hc);have HLL := hide (gen_len40 hc).2;have HL := hide (gen_len40 hc).1;have HT := hide htv;clear hc htv;have hbz := heap_alloc_new W1 (.cells #[.slice none 0 0,.slice none 0 0,.slice none 0 0,.slice none 0 0,.int .i64 0,.int .i64 0,.int .i64 0,.int .i64 0,.int .i64 0,.int .i64 0,.int .i64 0,.int .i64 0,.int .i64 0,.int .i64 0,.int .i64 0,.int .i64 0,.int .i64 0,.int .i64 0,.int .i64 0,.int .i64 0] 30);have hxz : Ext W1 (W1.alloc (.cells #[.slice none 0 0,.slice none 0 0,.slice none 0 0,.slice none 0 0,.int .i64 0,.int .i64 0,.int .i64 0,.int .i64 0,.int .i64 0,.int .i64 0,.int .i64 0,.int .i64 0,.int .i64 0,.int .i64 0,.int .i64 0,.int .i64 0,.int .i64 0,.int .i64 0,.int .i64 0,.int .i64 0] 30)) := za
 have hth : (W1.alloc (.cells #[.slice none 0 0,.slice none 0 0,.slice none 0 0,.slice none 0 0,.int .i64 0,.int .i64 0,.int .i64 0,.int .i64 0,.int .i64 0,.int .i64 0,.int .i64 0,.int .i64 0,.int .i64 0,.int .i64 0,.int .i64 0,.int .i64 0,.int .i64 0,.int .i64 0,.int .i64 0,.int .i64 0] 30)).there W1.heap.size 0 20 := fun q hq => by
  rw [Nat.zero_add];refine ⟨?_,by simp only [World.frozen?]; rw [hbz]; simp⟩;simp only [World.cell?,hbz];simp [hq]
 go_upto_region 2 with (refine wpList_store_mid rfl 30 (.tmp 9) (.tmp 17) rfl W1.heap.size 0 (encC c).toArray rfl rfl hth Tryz.confSize (all_oneCell_toArray (encC_one' ho)) ?_)
 generalize W1.alloc (.cells #[.slice none 0 0,.slice none 0 0,.slice none 0 0,.slice none 0 0,.int .i64 0,.int .i64 0,.int .i64 0,.int .i64 0,.int .i64 0,.int .i64 0,.int .i64 0,.int .i64 0,.int .i64 0,.int .i64 0,.int .i64 0,.int .i64 0,.int .i64 0,.int .i64 0,.int .i64 0,.int .i64 0] 30) = Wz at hbz hxz hth ⊢;obtain ⟨b9,hbe⟩ : ∃ b,W1.heap.size = b := ⟨_,rfl⟩;rw [hbe] at hbz hth ⊢;have hbb9 : w.heap.size <= b9 := by have := (E1).size; omega
 have hrs := World.rangeAt_setCells_same Wz b9 0 (encC c) hth;obtain ⟨cs,hcs1,hcs2⟩ := setCells_block b9 30 (0,0) (encC c) 0 Wz _ hbz;have hk5 := keeps_setCells b9 (encC c) 0 Wz;show Code.wp _ _ _ _ (Wz.setCells b9 0 (encC c));generalize Wz.setCells b9 0 (encC c) = W2 at hrs hk5 hcs1 ⊢;have HB := hide (show BoxC W2 b9 c from BoxC.of_range hcs1 (by rw [hcs2]; rfl) hrs);have HX := hide (Keeps.ext ((E1).trans hxz) hk5 (fun g hg => by omega));have HO := hide (((ho).ext hxz).keepT hk5 (OfT.one hbz) (by decide) (by decide) (by decide) (by decide) (by decide) (by decide) (by decide));have hGb9 : W1.heap.size <= b9 := by omega
 have hEb9 : Ext W1 W2 := ((Keeps.of_ext hxz).trans hk5 : Keeps (fun g => g = b9) W1 W2).below (Nat.le_refl _) (fun g hg => by omega);clear hrs hk5 hcs1 hcs2 hbz hxz hth;have HCT := hide (show ∀ g,c.tv.ownBlock = some g -> g < W2.heap.size from fun g hg => (HO.out.t.lt g hg).2);clear ho E1 hEb9 hGb9
 go_wp2_with fail
 refine (HAR.out _).mono ?_;rintro e w' ⟨rfl,rfl⟩;clear HAR
 go_upto_region 3 with (fail)
 try rw [hk]
 clear hwk hk hr1;refine wp_region_rw 91 [4,8,12,15,16,17] [11,21,22,23,24,25,26,27,28,29,30,31,32,33,34,35,36,37] (BtQ w.heap.size c W2) (fun (t : Nat) (wI : World) (v : Value) => match t with | 21 => v = (.agg #[c.sv,c.ev,c.rv,c.tv,.int .i64 c.w0,.int .i64 c.w1,.int .i64 c.w2,.int .i64 c.w3,.int .i64 c.w4,.int .i64 c.w5,.int .i64 c.w6,.int .i64 c.panic,.int .i64 c.low,.int .i64 c.high,.int .i64 c.wait,.int .i64 c.hop,.int .i64 c.life,.int .i64 c.purse,.int .i64 c.horizon,.int .i64 c.sample]) | 22 => v = (.agg #[c.sv,c.ev,c.rv,c.tv,.int .i64 c.w0,.int .i64 c.w1,.int .i64 c.w2,.int .i64 c.w3,.int .i64 c.w4,.int .i64 c.w5,.int .i64 c.w6,.int .i64 c.panic,.int .i64 c.low,.int .i64 c.high,.int .i64 c.wait,.int .i64 c.hop,.int .i64 c.life,.int .i64 c.purse,.int .i64 c.horizon,.int .i64 c.sample]) | 23 => v = (.int .i64 how) | 24 => v = (.int .i64 n) | 26 => v = (.agg #[c.sv,c.ev,c.rv,c.tv,.int .i64 c.w0,.int .i64 c.w1,.int .i64 c.w2,.int .i64 c.w3,.int .i64 c.w4,.int .i64 c.w5,.int .i64 c.w6,.int .i64 c.panic,.int .i64 c.low,.int .i64 c.high,.int .i64 c.wait,.int .i64 c.hop,.int .i64 c.life,.int .i64 c.purse,.int .i64 c.horizon,.int .i64 c.sample]) | 27 => v = (.int .i64 how) | 28 => v = (.int .i64 k) | 30 => v = (.agg #[c.sv,c.ev,c.rv,c.tv,.int .i64 c.w0,.int .i64 c.w1,.int .i64 c.w2,.int .i64 c.w3,.int .i64 c.w4,.int .i64 c.w5,.int .i64 c.w6,.int .i64 c.panic,.int .i64 c.low,.int .i64 c.high,.int .i64 c.wait,.int .i64 c.hop,.int .i64 c.life,.int .i64 c.purse,.int .i64 c.horizon,.int .i64 c.sample]) | 31 => v = (.int .i64 how) | 32 => v = (.int .i64 k) | 34 => v = (.int .i64 other) | 35 => v = (.int .i64 n) | _ => True) (fun _ _ => True) (by kernel_rfl) rfl (by kernel_rfl) (by kernel_rfl) (by kernel_rfl) (by kernel_rfl) ?_ ?_ ?_ ?_ ?_ ?_ ?_
 ·intro w' w'' h;trivial
 ·intro t w' w'' v hR hv;exact hv
 ·intro vs w' w'' h e;exact h.ext e
 ·exact zb.drew
 ·intro i o ho hmi vs X w' hpk hph hX hI hF K hK;have hin : i < 18 := (zg ho);rcases zo hin with rfl | rfl | rfl | rfl | rfl | rfl | rfl | rfl | rfl | rfl | rfl | rfl | rfl | rfl | rfl | rfl | rfl | rfl
  all_goals first | (exact absurd hmi (by decide)) | (obtain rfl := Option.some.inj ho; unfold wpOp; simp only [ho]; rw [if_pos (by rfl)]; left; rw [frame91])
  ·have e9 : X 9 = (.pointer (some ⟨b9,0,none⟩)) := zk3 (hF 9);have hxe := hph.base;refine wp_load_mid 30 (.tmp 9) rfl b9 0 e9 (encC c) cd ((HB.out.ext hxe).range) hcd1 hcd2 Tryz.confSize (metK (hK.out (.agg #[c.sv,c.ev,c.rv,c.tv,.int .i64 c.w0,.int .i64 c.w1,.int .i64 c.w2,.int .i64 c.w3,.int .i64 c.w4,.int .i64 c.w5,.int .i64 c.w6,.int .i64 c.panic,.int .i64 c.low,.int .i64 c.high,.int .i64 c.wait,.int .i64 c.hop,.int .i64 c.life,.int .i64 c.purse,.int .i64 c.horizon,.int .i64 c.sample]) _ zb (fun d hd => by cases hd; exact rfl)) ?_);simp [frame91,Act.put, *];rfl
  ·have e9 : X 9 = (.pointer (some ⟨b9,0,none⟩)) := zk3 (hF 9);have hxe := hph.base;refine wp_load_mid 30 (.tmp 9) rfl b9 0 e9 (encC c) cd ((HB.out.ext hxe).range) hcd1 hcd2 Tryz.confSize (metK (hK.out (.agg #[c.sv,c.ev,c.rv,c.tv,.int .i64 c.w0,.int .i64 c.w1,.int .i64 c.w2,.int .i64 c.w3,.int .i64 c.w4,.int .i64 c.w5,.int .i64 c.w6,.int .i64 c.panic,.int .i64 c.low,.int .i64 c.high,.int .i64 c.wait,.int .i64 c.hop,.int .i64 c.life,.int .i64 c.purse,.int .i64 c.horizon,.int .i64 c.sample]) _ zb (fun d hd => by cases hd; exact rfl)) ?_);simp [frame91,Act.put, *];rfl
  ·have e1 : X 1 = (.int .i64 how) := zk3 (hF 1);go_simp;refine zm1 hK ((.int .i64 how)) ?_;simp [frame91,Act.put, *]
  ·have e2 : X 2 = (.int .i64 n) := zk3 (hF 2);go_simp;refine zm1 hK ((.int .i64 n)) ?_;simp [frame91,Act.put, *]
  ·have e9 : X 9 = (.pointer (some ⟨b9,0,none⟩)) := zk3 (hF 9);have hxe := hph.base;refine wp_load_mid 30 (.tmp 9) rfl b9 0 e9 (encC c) cd ((HB.out.ext hxe).range) hcd1 hcd2 Tryz.confSize (metK (hK.out (.agg #[c.sv,c.ev,c.rv,c.tv,.int .i64 c.w0,.int .i64 c.w1,.int .i64 c.w2,.int .i64 c.w3,.int .i64 c.w4,.int .i64 c.w5,.int .i64 c.w6,.int .i64 c.panic,.int .i64 c.low,.int .i64 c.high,.int .i64 c.wait,.int .i64 c.hop,.int .i64 c.life,.int .i64 c.purse,.int .i64 c.horizon,.int .i64 c.sample]) _ zb (fun d hd => by cases hd; exact rfl)) ?_);simp [frame91,Act.put, *];rfl
  ·have e1 : X 1 = (.int .i64 how) := zk3 (hF 1);go_simp;refine zm1 hK ((.int .i64 how)) ?_;simp [frame91,Act.put, *]
  ·have e10 : X 10 = (.int .i64 k) := zk3 (hF 10);go_simp;refine zm1 hK ((.int .i64 k)) ?_;simp [frame91,Act.put, *]
  ·have e9 : X 9 = (.pointer (some ⟨b9,0,none⟩)) := zk3 (hF 9);have hxe := hph.base;refine wp_load_mid 30 (.tmp 9) rfl b9 0 e9 (encC c) cd ((HB.out.ext hxe).range) hcd1 hcd2 Tryz.confSize (metK (hK.out (.agg #[c.sv,c.ev,c.rv,c.tv,.int .i64 c.w0,.int .i64 c.w1,.int .i64 c.w2,.int .i64 c.w3,.int .i64 c.w4,.int .i64 c.w5,.int .i64 c.w6,.int .i64 c.panic,.int .i64 c.low,.int .i64 c.high,.int .i64 c.wait,.int .i64 c.hop,.int .i64 c.life,.int .i64 c.purse,.int .i64 c.horizon,.int .i64 c.sample]) _ zb (fun d hd => by cases hd; exact rfl)) ?_);simp [frame91,Act.put, *];rfl
  ·have e1 : X 1 = (.int .i64 how) := zk3 (hF 1);go_simp;refine zm1 hK ((.int .i64 how)) ?_;simp [frame91,Act.put, *]
  ·have e10 : X 10 = (.int .i64 k) := zk3 (hF 10);go_simp;refine zm1 hK ((.int .i64 k)) ?_;simp [frame91,Act.put, *]
  ·have e3 : X 3 = (.int .i64 other) := zk3 (hF 3);go_simp;refine zm1 hK ((.int .i64 other)) ?_;simp [frame91,Act.put, *]
  ·have e2 : X 2 = (.int .i64 n) := zk3 (hF 2);go_simp;refine zm1 hK ((.int .i64 n)) ?_;simp [frame91,Act.put, *]
 ·intro i o ho hmi vs X w' hqi hql hph hX hI hF K hK;rcases vs with _ | ⟨v0,_ | ⟨v1,_ | ⟨v2,_ | ⟨v3,_ | ⟨v4,_ | ⟨v5,_⟩⟩⟩⟩⟩⟩
  ·obtain rfl : 4 = i := hqi;obtain rfl := Option.some.inj ho;have e22 : X 22 = _ := zk2 (hI 22);have e23 : X 23 = _ := zk2 (hI 23);have e24 : X 24 = _ := zk2 (hI 24);have hxe := hph.base;have hbn := bent16_any c how n w.heap.size w' (HO.out.ext hxe) (HX.out.trans hxe).size G.out.1 HL.out HI.out.1 HI.out.2.1;unfold wpOp;simp only [ho];rw [if_pos (by rfl)];left;rw [frame91];go_simp;refine Calls.mono hbn ?_;rintro e w9 ⟨d,m,rfl,hod,hfd,hcn,hp1,hp2,hp3,hft,hkx⟩;have hE := bent_ext (d := d) hkx HT.out;refine metK (hK.out d.val w9 ⟨BtPh.ext (B := w.heap.size) (c := c) (W := W2) (vs := []) hph hE,BtL.made (vs := []) hph hod hfd hft⟩ trivial) ?_;simp [frame91,Act.put, *]
  ·obtain rfl : 8 = i := hqi;obtain rfl := Option.some.inj ho;have e26 : X 26 = _ := zk2 (hI 26);have e27 : X 27 = _ := zk2 (hI 27);have e28 : X 28 = _ := zk2 (hI 28);have hph0 := hph;have hxe := hph.base;have hbn := bent16_any c how k w.heap.size w' (HO.out.ext hxe) (HX.out.trans hxe).size G.out.1 HL.out HI.out.1 HI.out.2.2.2;unfold wpOp;simp only [ho];rw [if_pos (by rfl)];left;rw [frame91];go_simp;refine Calls.mono hbn ?_;rintro e w9 ⟨d,m,rfl,hod,hfd,hcn,hp1,hp2,hp3,hft,hkx⟩;have hE := bent_ext (d := d) hkx HT.out;refine metK (hK.out d.val w9 ⟨hph0.1.ext hE,hph0.2.ext hE,BtL.made (vs := []) hph0.1 hod hfd hft⟩ trivial) ?_;simp [frame91,Act.put, *]
  ·obtain rfl : 12 = i := hqi;obtain rfl := Option.some.inj ho;have e30 : X 30 = _ := zk2 (hI 30);have e31 : X 31 = _ := zk2 (hI 31);have e32 : X 32 = _ := zk2 (hI 32);have hph0 := hph;have hxe := hph.base;have hbn := bent16_any c how k w.heap.size w' (HO.out.ext hxe) (HX.out.trans hxe).size G.out.1 HL.out HI.out.1 HI.out.2.2.2;unfold wpOp;simp only [ho];rw [if_pos (by rfl)];left;rw [frame91];go_simp;refine Calls.mono hbn ?_;rintro e w9 ⟨d,m,rfl,hod,hfd,hcn,hp1,hp2,hp3,hft,hkx⟩;have hE := bent_ext (d := d) hkx HT.out;have hlen := BnCnt.len (d := d) hcn (by have := HLL.out; omega) (by have := HLL.out; omega) (by have := HLL.out; omega) (by have := HLL.out; omega) hp1 hp2 hp3
   have hw9 : ∀ g,d.tv.ownBlock = some g -> (c.tv.ownBlock = some g /\ TvF d) \/ W2.heap.size <= g := fun g hg => by
    rcases hft g hg with ⟨h1,h2 | ⟨h2,h3⟩⟩ | h1
    ·exact absurd HT.out h2
    ·refine .inl ⟨h1, ?_⟩;unfold TvF;rw [h2,h3];exact HT.out
    ·exact .inr (Nat.le_trans hxe.size h1)
   refine metK (hK.out d.val w9 ⟨⟨hxe.trans hE,d,rfl,hod,hfd,hlen,hw9⟩,hph0.2.1.step hE hft,hph0.2.2.step hE hft⟩ trivial) ?_;simp [frame91,Act.put, *]
  ·obtain rfl : 15 = i := hqi;obtain rfl := Option.some.inj ho;have e33 : X 33 = v2 := hX 2 33 (by simp) (by kernel_rfl);have e34 : X 34 = _ := zk2 (hI 34);have e35 : X 35 = _ := zk2 (hI 35);obtain ⟨⟨hxe,x,rfl,hox,hfx,hlx,hwx⟩,ha,hb⟩ := hph;have hbn := bent16_any x other n w.heap.size w' hox (HX.out.trans hxe).size hfx hlx HI.out.2.2.1 HI.out.2.1;simp only [ConfD.val] at e33;unfold wpOp;simp only [ho];rw [if_pos (by rfl)];left;rw [frame91];go_simp;refine Calls.mono hbn ?_;rintro e w9 ⟨d,m,rfl,hod,hfd,hcn,hp1,hp2,hp3,hft,hkx⟩;have hXW : Ext W2 w9 := Keeps.ext hxe hkx (fun g hg => by rcases hwx g hg.1 with h | h; exact absurd h.2 hg.2; exact h);refine metK (hK.out d.val w9 ⟨⟨hXW,d,rfl,hod,hfd⟩,ha.turn hox hkx hwx HCT.out,hb.turn hox hkx hwx HCT.out⟩ trivial) ?_;simp [frame91,Act.put, *]
  ·obtain rfl : 16 = i := hqi;obtain rfl := Option.some.inj ho;have e21 : X 21 = _ := zk2 (hI 21);have e25 : X 25 = v0 := hX 0 25 (by simp) (by kernel_rfl);have e29 : X 29 = v1 := hX 1 29 (by simp) (by kernel_rfl);have e36 : X 36 = v3 := hX 3 36 (by simp) (by kernel_rfl);obtain ⟨⟨hxe,d3,rfl,o3,f3⟩,⟨d1,rfl,o1,f1,-⟩,⟨d2,rfl,o2,f2,-⟩⟩ := hph;have hrun := run_allC w' c d1 d2 d3;have hall := AllAt.made (vs := [undef,undef]) rfl (HO.out.ext hxe) G.out.1 o1 f1 o2 f2 o3 f3 (HX.out.trans hxe).size;have hE : Ext w' (w'.alloc (.cells (encC c ++ encC d1 ++ encC d2 ++ encC d3).toArray 30)) := za;unfold wpOp;simp only [ho];rw [if_pos (by rfl)];left;rw [frame91];simp only [e25,e29,e36,ConfD.val];simp only [ConfD.val] at hrun;go_simp;refine metK (hK.out (.slice (some ⟨w'.heap.size,0,none⟩) 4 4) _ ⟨hxe.trans hE,hall⟩ trivial) ?_;simp [frame91,Act.put, *];exact ⟨rfl,rfl,rfl⟩
  ·obtain rfl : 17 = i := hqi;obtain rfl := Option.some.inj ho;have e37 : X 37 = v4 := hX 4 37 (by simp) (by kernel_rfl);have hph0 := hph;unfold wpOp;simp only [ho];rw [if_pos (by rfl)];left;rw [frame91];go_simp;refine metK (hK.out v4 _ hph0 trivial) ?_;simp [frame91,Act.put, *]
  ·simp at hql <;> omega
 ·intro vs X w' hlen hph hX hI;have e21 : X 21 = _ := zk4 (hI 21);have e22 : X 22 = _ := zk4 (hI 22);have e23 : X 23 = _ := zk4 (hI 23);have e24 : X 24 = _ := zk4 (hI 24);have e26 : X 26 = _ := zk4 (hI 26);have e27 : X 27 = _ := zk4 (hI 27);have e28 : X 28 = _ := zk4 (hI 28);have e30 : X 30 = _ := zk4 (hI 30);have e31 : X 31 = _ := zk4 (hI 31);have e32 : X 32 = _ := zk4 (hI 32);have e34 : X 34 = _ := zk4 (hI 34);have e35 : X 35 = _ := zk4 (hI 35);rcases vs with _ | ⟨v0,_ | ⟨v1,_ | ⟨v2,_ | ⟨v3,_ | ⟨v4,_ | ⟨v5,_ | ⟨vz,vs⟩⟩⟩⟩⟩⟩⟩
  ·simp at hlen
  ·simp at hlen
  ·simp at hlen
  ·simp at hlen
  ·simp at hlen
  ·simp at hlen
  rotate_left
  ·simp at hlen
  have e11 : X 11 = v5 := hX 5 11 (by simp) (by kernel_rfl);have e25 : X 25 = v0 := hX 0 25 (by simp) (by kernel_rfl);have e29 : X 29 = v1 := hX 1 29 (by simp) (by kernel_rfl);have e33 : X 33 = v2 := hX 2 33 (by simp) (by kernel_rfl);have e36 : X 36 = v3 := hX 3 36 (by simp) (by kernel_rfl);have e37 : X 37 = v4 := hX 4 37 (by simp) (by kernel_rfl);clear hX hI hlen;simp only [overF,List.foldl_cons,List.foldl_nil,List.setIfInBounds_toArray,List.set_cons_succ,List.set_cons_zero,e11,e21,e22,e23,e24,e25,e26,e27,e28,e29,e30,e31,e32,e33,e34,e35,e36,e37];obtain ⟨hxw,hz,al,D,hD4,e11b,hcs,hDo⟩ := hph;subst e11b;have HXW := hide hxw;clear hxw hz e11 e21 e22 e23 e24 e25 e26 e27 e28 e29 e30 e31 e32 e33 e34 e35 e36 e37
  try clear X
  generalize w' = W3 at *;have HCS := hide hcs;have HD4 := hide hD4;have HDO := hide hDo;have HX3 := hide (HX.out.trans HXW.out);have HB3 := hide (HB.out.ext HXW.out);have HO3 := hide (HO.out.ext HXW.out);clear hcs hD4 hDo HXW HB HX HO HS HL0 HT HCT HL HLL hbb9
  go_upto_region 4 with (fail)
  go_wp2_with fail
  go_loopw [12] (fun v12 wr => ∃ i : Nat,i <= 4 /\ v12 = .int .i64 i /\ Ext W3 wr) (fun i _ => 4 - (intOf i).toNat)
  case atStart => exact ⟨0,Nat.zero_le _,rfl,zb⟩
  case round =>
   obtain ⟨i,hi4,rfl,hx⟩ := hrel;generalize wr = w1 at *;have HX1 := hide hx;clear hx;by_cases hlt : i < 4
   ·have hltz : (i : Int) < 4 := (by omega);have HWI := hide (show IntKind.i64.wrap ((i : Int) + 1) = ((i + 1 : Nat) : Int) by rw [IntKind.wrap_i64]; omega);have hiD : i < D.length := (by rw [HD4.out]; exact hlt);obtain ⟨b,off,rfl,hbb,hrg⟩ := confs_at HCS.out i hiD;obtain ⟨ho,hf⟩ := HDO.out _ (List.getElem_mem hiD);generalize D[i]'hiD = d at hrg ho hf;clear hiD;have HRG := hide (fun X (hX : Ext W3 X) => (fun j v hv => (hX.cell (p := ⟨b,off + i * 20 + j,none⟩) hbb).trans (hrg j v hv) : X.rangeAt b (off + i * 20) (encC d)));have HDW := hide (fun X (hX : Ext W3 X) => ho.ext hX);have HF := hide hf;have hE40 : chkC d = 0 -> d.E.length <= 40 := fun h => (chkC_ends h).2.1;have HE40 := hide hE40;have hck := fun X (hX : Ext W3 X) => check_any d X (HM.out.ext (HX3.out.trans hX)) (ho.ext hX).ok hf;have hrk := fun X (hX : Ext W3 X) => check16_any d X (ho.ext hX).ok hf;have hnw := fun X (hX : Ext W3 X) => mnew_gen n w.heap.size d X (HM.out.ext (HX3.out.trans hX)) (HX3.out.trans hX).size (ho.ext hX) hf hE40;obtain ⟨z,hz⟩ : ∃ z,chkC d = z := ⟨_,rfl⟩;rw [hz] at hck hrk;simp only [hz] at hnw;have HCK := hide hck;have HRK := hide hrk;have HNW := hide hnw;clear hrg ho hf hE40 hck hrk hnw hz hbb HE40;have q0 : (0 : Int) <= i := by omega
    go_upto_region 7 with (fail)
    refine wp_region_lit ?_
    iterate 3 (refine wpList_plain rfl fun K hK => ?_; go_simp; refine hK _ _ ?_)
    refine wpList_load_mid rfl 30 (.tmp 44) rfl b (off + i * 20) rfl (encC d) cd (HRG.out _ HX1.out) hcd1 hcd2 Tryz.confSize ?_;simp only [Act.put]
    go_wp2_with fail
    refine (HCK.out _ HX1.out).mono ?_;rintro e w2 ⟨rfl,E2⟩;have HX2 := hide (HX1.out.trans E2);clear E2
    go_upto_region 8 with (fail)
    refine wp_region_lit ?_
    iterate 4 (refine wpList_plain rfl fun K hK => ?_; go_simp; refine hK _ _ ?_)
    refine wpList_load_mid rfl 30 (.tmp 51) rfl b (off + i * 20) rfl (encC d) cd (HRG.out _ HX2.out) hcd1 hcd2 Tryz.confSize ?_;simp only [Act.put]
    go_wp2_with fail
    refine (HNW.out _ HX2.out).mono ?_;rintro e w3 ⟨E3,hcase⟩;have HX33 := hide (HX2.out.trans E3);clear E3;rcases hcase with ⟨hne,rfl⟩ | ⟨rfl,bb,rfl,hsa⟩
    ·have hq1 : (z == 0) = false := (by simpa using hne);have hq2 : (z != 0) = true := (by simpa using hne);have HQ := hide (And.intro hq1 hq2);clear hne hq1 hq2
     go_upto_region 9 with (fail)
     refine wp_region_lit ?_
     iterate 4 (refine wpList_plain rfl fun K hK => ?_; go_simp; refine hK _ _ ?_)
     refine wpList_load_mid rfl 30 (.tmp 59) rfl b (off + i * 20) rfl (encC d) cd (HRG.out _ HX33.out) hcd1 hcd2 Tryz.confSize ?_;simp only [Act.put]
     go_wp2_with fail
     refine (HRK.out _ HX33.out).mono ?_;rintro e w4 ⟨rfl,E4⟩;have HX4 := hide (HX33.out.trans E4);obtain ⟨hq1,hq2⟩ := HQ.out;clear E4;go_wp2
     go_roundw
     case rel => exact ⟨i + 1,by omega,by first | (rw [HWI.out]) | go_num,HX4.out⟩
     case measure => (simp [intOf]) <;> omega
    ·have HSA := hide hsa;clear hsa
     go_upto_region 9 with (fail)
     refine wp_region_lit ?_
     iterate 4 (refine wpList_plain rfl fun K hK => ?_; go_simp; refine hK _ _ ?_)
     refine wpList_load_mid rfl 30 (.tmp 59) rfl b (off + i * 20) rfl (encC d) cd (HRG.out _ HX33.out) hcd1 hcd2 Tryz.confSize ?_;simp only [Act.put]
     go_wp2_with fail
     refine (HRK.out _ HX33.out).mono ?_;rintro e w4 ⟨rfl,E4⟩;have HX4 := hide (HX33.out.trans E4);have hc0 := (HSA.out.ext E4).c0;clear E4;go_wp2
     go_roundw
     case rel => exact ⟨i + 1,by omega,by first | (rw [HWI.out]) | go_num,HX4.out⟩
     case measure => (simp [intOf]) <;> omega
   ·obtain rfl : i = 4 := (by omega);have HX4 := hide (HX3.out.trans HX1.out);have hck := check_any c w1 (HM.out.ext HX4.out) (HO3.out.ext HX1.out).ok G.out.1;rw [G.out.2.1] at hck;have HCK := hide hck;clear hlt hck
    go_upto_region 13 with (fail)
    refine wp_region_lit ?_;refine wpList_load_mid rfl 30 (.tmp 9) rfl b9 0 rfl (encC c) cd ((HB3.out.ext HX1.out).range) hcd1 hcd2 Tryz.confSize ?_;simp only [Act.put]
    go_wp2_with fail
    refine HCK.out.mono ?_;rintro e w5 ⟨rfl,E5⟩;have HX5 := hide (HX4.out.trans E5);clear E5
    go_wp2_with fail
    refine (lives16_any w5 (HM.out.ext HX5.out)).mono ?_;rintro e w6 ⟨rfl,E6⟩;have HZ := hide (HX5.out.trans E6);clear E6;go_wp2;go_ret;exact ⟨rfl,HZ.out⟩
end Go.Proofs.YtoaiakhnnfbkdaaGreatDoor
