import Derived.Test.YtoaiakhnnfbkdaaGreatDoorZr
import Derived.Test.YtoaiakhnnfbkdaaGreatDoorRtG
import Derived.Test.YtoaiakhnnfbkdaaGreatDoorRtK
set_option maxRecDepth 100000
set_option maxHeartbeats 32000000
namespace Go.Proofs.YtoaiakhnnfbkdaaGreatDoor
open Go.ChangeShapes Go.WideShapes Go.ChangeAt Go.RowKit Go.Lib Go.Shelf
theorem nerr_at (R : List RuleD) (rates : Int) (k : Nat) (hk : k < R.length) (h20 : ¬ 20 < R.length) (h : ∀ x ∈ R.take k,rchk x rates = 0) (h0 : rchk R[k] rates ≠ 0) : nerr R rates = rchk R[k] rates := by
 unfold nerr;rw [if_neg h20];have : R = R.take k ++ R[k] :: R.drop (k + 1) := by rw [<- List.drop_eq_getElem_cons hk,List.take_append_drop]
 conv => lhs; rw [this]
 rw [List.map_append,List.find?_append]
 have hn : ((R.take k).map (rchk · rates)).find? (· != 0) = none := by
  rw [List.find?_eq_none];intro x hx;obtain ⟨y,hy,rfl⟩ := List.mem_map.1 hx;simp [h y hy]
 rw [hn,List.map_cons,List.find?_cons];have : (rchk R[k] rates != 0) = true := by simpa using h0
 rw [this];rfl
theorem nerr_all (R : List RuleD) (rates : Int) (h20 : ¬ 20 < R.length) (h : ∀ x ∈ R,rchk x rates = 0) : nerr R rates = 0 := by
 unfold nerr;rw [if_neg h20]
 have hn : (R.map (rchk · rates)).find? (· != 0) = none := by
  rw [List.find?_eq_none];intro x hx;obtain ⟨y,hy,rfl⟩ := List.mem_map.1 hx;simp [h y hy]
 rw [hn];rfl
theorem rchk_small (r : RuleD) (rates : Int) (hf : RuleFit r) (h : rchk r rates = 0) : r.H.length <= 1000000 /\ r.P.length <= 1000000 /\ r.S.length <= 1000000 /\ r.D.length <= 1000000 := by
 have e : mchk (bl r.path) r.H = 0 /\ wrchk r.pre r.S r.D = 0 := by
  unfold rchk at h;by_cases h1 : mchk (bl r.path) r.H = 0
  ·refine ⟨h1, ?_⟩;rw [if_neg (fun hh => hh h1)] at h;by_cases h2 : Sp.check r.P = 0
   ·rw [if_neg (fun hh => hh h2)] at h;split at h
    ·omega
    ·split at h
     ·omega
     ·by_cases h3 : wrchk r.pre r.S r.D = 0
      ·exact h3
      ·rw [if_pos h3] at h; exact absurd h h3
   ·rw [if_pos h2] at h; exact absurd h h2
  ·rw [if_pos h1] at h; exact absurd h h1
 obtain ⟨e1,e2⟩ := e;refine ⟨?_,hf.2.2.2.2.2.2, ?_, ?_⟩
 ·unfold mchk at e1;split at e1
  ·unfold hchk at e1;split at e1
   ·omega
   ·omega
  ·omega
 ·unfold wrchk at e2;split at e2
  ·omega
  ·by_cases h1 : hchk r.S = 0
   ·unfold hchk at h1;split at h1
    ·omega
    ·omega
   ·rw [if_pos h1] at e2; exact absurd e2 h1
 ·unfold wrchk at e2;split at e2
  ·omega
  ·by_cases h1 : hchk r.S = 0
   ·rw [if_neg (fun hh => hh h1)] at e2;split at e2
    ·omega
    ·omega
   ·rw [if_pos h1] at e2; exact absurd e2 h1
theorem upTo_succ (k : Nat) : upTo (k + 1) = upTo k ++ [(k : Int)] := by simp [upTo,List.range_succ]
theorem core_len {Rs R : List RuleD} (h : Rs.map RuleD.core = R.map RuleD.core) : Rs.length = R.length := by simpa using congrArg List.length h
def PhA (B _b8 : Nat) (W : World) (vr _vi : Value) (Rs : List RuleD) (_I : List Int) (r : RuleD) : List Value -> World -> Prop
 | [],w' => Ext W w'
 | [u],w' => Ext W w' /\ ∃ r',u = r'.val /\ Same r r' /\ RuleOwn B w' r'
 | [u,s],w' => Ext W w' /\ ∃ r',u = r'.val /\ Same r r' /\ RuleOwn B w' r' /\ Rules w' s [r']
 | [_,_,v],w' => ∃ r' x y,Same r r' /\ RuleOwn B w' r' /\ v = .slice x (Rs.length + 1) y /\ w'.ownsRow B 69 19 v (Rs.length + 1) (Rs.flatMap encR ++ encR r') /\ Keeps (fun g => vr.ownBlock = some g) W w'
 | [_,_,v,_],w' => ∃ w1 r',Same r r' /\ RuleOwn B w1 r' /\ w1.ownsRow B 69 19 v (Rs.length + 1) (Rs.flatMap encR ++ encR r') /\ Keeps (fun g => vr.ownBlock = some g) W w1 /\ w' = w1.setCell ⟨B,0,none⟩ v
 | _,_ => False
def PhB (B : Nat) (W : World) (vi : Value) (I : List Int) (k : Int) : List Value -> World -> Prop
 | [],w' => Ext W w'
 | [s],w' => Ext W w' /\ Ints w' s [k]
 | [_,v],w' => ∃ x y,v = .slice x (I.length + 1) y /\ w'.ownsRow B 3 1 v (I.length + 1) (I.flatMap encI ++ [.int .i64 k]) /\ Keeps (fun g => vi.ownBlock = some g) W w'
 | [_,v,_],w' => ∃ w1,w1.ownsRow B 3 1 v (I.length + 1) (I.flatMap encI ++ [.int .i64 k]) /\ Keeps (fun g => vi.ownBlock = some g) W w1 /\ w' = w1.setCell ⟨B,1,none⟩ v
 | _,_ => False
theorem Tryz.infoI : (Tryz.prog.info? 3).map (fun i => (i.zero,i.size,i.bytes)) = some (some (.int .i64 0),1,8) := by kernel_rfl
theorem frame57 (x : Nat -> Value) : frameOf 57 x = #[x 0,x 1,x 2,x 3,x 4,x 5,x 6,x 7,x 8,x 9,x 10,x 11,x 12,x 13,x 14,x 15,x 16,x 17,x 18,x 19,x 20,x 21,x 22,x 23,x 24,x 25,x 26,x 27,x 28,x 29,x 30,x 31,x 32,x 33,x 34,x 35,x 36,x 37,x 38,x 39,x 40,x 41,x 42,x 43,x 44,x 45,x 46,x 47,x 48,x 49,x 50,x 51,x 52,x 53,x 54,x 55,x 56] := rfl
theorem hnew_any (R : List RuleD) (rates : Int) (v : Value) (w : World) (hs : Rules w v R) (hok : ∀ r ∈ R,RuleOk w r /\ RuleFit r) (hm : MaxV w) :
  Calls Tryz.prog 17 #[v,.int .i64 rates] w fun e w' => Ext w w' /\ ((nerr R rates ≠ 0 /\ e = .returned (.tuple #[.pointer none,.int .i64 (nerr R rates)])) \/
   (nerr R rates = 0 /\ ∃ b Rs,e = .returned (.tuple #[.pointer (some ⟨b,0,none⟩),.int .i64 0]) /\ TabAt w.heap.size w' b Rs (rowR R) /\ Rs.map RuleD.core = R.map RuleD.core)) := by
 obtain ⟨hl,a,c,rfl⟩ := hs.shape;obtain ⟨dd,hd1,hd2⟩ := Tryz.ruleDesc;by_cases h20 : 20 < R.length
 ·have h20z : (20 : Int) < R.length := by omega
  have hn : nerr R rates = 2 := by unfold nerr; rw [if_pos h20]
  rw [hn];clear hs hok hm hn
  go_enter Tryz.func17,Tryz.ntmps17
  go_wp2;go_ret2;exact ⟨zb,.inl ⟨by omega,rfl⟩⟩
 have h20z : ¬ (20 : Int) < R.length := by omega
 have HS := hide hs;have HOK := hide hok;have HM := hide hm;have H20 := hide h20;clear hs hok hm
 go_enter Tryz.func17,Tryz.ntmps17
 go_wp2_with fail
 generalize hW : (w.alloc (.cells #[.slice none 0 0,.slice none 0 0] 99)).alloc (.cells #[.pointer (some ⟨w.heap.size,0,none⟩)] 40) = W0
 have hT0 : TabAt w.heap.size W0 w.heap.size [] (upTo 0) := by
  subst hW;refine ⟨Nat.le_refl _,⟨_,_,(Below.heap_alloc _ _ _ (by simp)).trans (heap_alloc_new w _), ?_, ?_⟩,fun r hr => by cases hr⟩
  ·exact World.ownsRow_nil _ _ _ _
  ·exact World.ownsRow_nil _ _ _ _
 have h60 : W0.heap[w.heap.size + 1]? = some (.cells #[.pointer (some ⟨w.heap.size,0,none⟩)] 40 (0,0)) := by
  subst hW;exact heap_alloc2_new w _ _
 have hE0 : Ext w W0 := by
  subst hW;exact za.alloc (by simp) _
 clear hW
 go_loopw [17] (fun i wr => ∃ (k : Nat) (Rs : List RuleD),k <= R.length /\ i = .int .i64 k /\ Ext w wr /\ TabAt w.heap.size wr w.heap.size Rs (upTo k) /\ wr.heap[w.heap.size + 1]? = some (.cells #[.pointer (some ⟨w.heap.size,0,none⟩)] 40 (0,0)) /\ Rs.map RuleD.core = (R.take k).map RuleD.core /\ ∀ x ∈ R.take k,rchk x rates = 0) (fun i _ => R.length - (intOf i).toNat)
 case atStart => exact ⟨0,[],by omega,rfl,hE0,hT0,h60,rfl,fun x hx => by simp at hx⟩
 case round =>
  clear hT0 h60 hE0;obtain ⟨k,Rs,hk,rfl,hE,hT,h6,hcore,hall⟩ := hrel;have HT := hide hT;have H6 := hide h6;have HCO := hide hcore;have HAL := hide hall;clear hT h6 hcore hall;by_cases hlt : k < R.length
  ·obtain ⟨b,off,rfl,hbb,hc⟩ := rules_at HS.out k hlt;obtain ⟨r,hr⟩ : ∃ r,R[k] = r := ⟨_,rfl⟩;rw [hr] at hc;have hokr := HOK.out r (by rw [<- hr]; exact List.getElem_mem hlt);have hrg : wr.rangeAt b (off + k * 19) (encR r) := fun j v hv => (hE.cell (p := ⟨b,off + k * 19 + j,none⟩) hbb).trans (hc j v hv);have HR := hide hr;have HOR := hide hokr;clear hc hokr hr
   go_upto_region 6 with (fail)
   refine wp_region_lit ?_
   iterate 2 (refine wpList_plain rfl fun K hK => ?_; go_simp; refine hK _ _ ?_)
   refine wpList_load_mid rfl 69 (.tmp 20) rfl b (off + k * 19) rfl (encR r) dd hrg hd1 hd2 Tryz.ruleSize ?_;clear hrg
   iterate 2 (refine wpList_plain rfl fun K hK => ?_; go_simp; refine hK _ _ ?_)
   have hb8 := heap_alloc_new wr (.cells #[.string ⟨#[]⟩,.bool false,.slice none 0 0,.slice none 0 0,.int .i64 0,.int .i64 0,.int .i64 0,.int .i64 0,.string ⟨#[]⟩,.slice none 0 0,.slice none 0 0,.int .i64 0,.int .i64 0,.int .i64 0,.int .i64 0,.int .i64 0,.int .i64 0,.int .i64 0,.int .i64 0] 69)
   have hth : (wr.alloc (.cells #[.string ⟨#[]⟩,.bool false,.slice none 0 0,.slice none 0 0,.int .i64 0,.int .i64 0,.int .i64 0,.int .i64 0,.string ⟨#[]⟩,.slice none 0 0,.slice none 0 0,.int .i64 0,.int .i64 0,.int .i64 0,.int .i64 0,.int .i64 0,.int .i64 0,.int .i64 0,.int .i64 0] 69)).there wr.heap.size 0 (encR r).toArray.size := fun j hj => by
    have hj' : j < 19 := hj;rw [Nat.zero_add];refine ⟨?_,by simp only [World.frozen?,hb8]; simp⟩;simp only [World.cell?,hb8];simp [hj']
   refine wpList_store_mid rfl 69 (.tmp 8) (.tmp 21) rfl wr.heap.size 0 (encR r).toArray rfl rfl hth Tryz.ruleSize (all_oneCell_toArray (encR_one' r HOR.out.1)) ?_;refine wpList_nil ?_
   have hce : CellR ((wr.alloc (.cells #[.string ⟨#[]⟩,.bool false,.slice none 0 0,.slice none 0 0,.int .i64 0,.int .i64 0,.int .i64 0,.int .i64 0,.string ⟨#[]⟩,.slice none 0 0,.slice none 0 0,.int .i64 0,.int .i64 0,.int .i64 0,.int .i64 0,.int .i64 0,.int .i64 0,.int .i64 0,.int .i64 0] 69)).setCells wr.heap.size 0 (encR r).toArray.toList) wr.heap.size r := by
    refine ⟨Nat.lt_of_lt_of_le (by simp) (keeps_setCells wr.heap.size (encR r) 0 _).size,fun j u hu => ?_⟩;have := World.rangeAt_setCells_same (wr.alloc (.cells #[.string ⟨#[]⟩,.bool false,.slice none 0 0,.slice none 0 0,.int .i64 0,.int .i64 0,.int .i64 0,.int .i64 0,.string ⟨#[]⟩,.slice none 0 0,.slice none 0 0,.int .i64 0,.int .i64 0,.int .i64 0,.int .i64 0,.int .i64 0,.int .i64 0,.int .i64 0,.int .i64 0] 69)) wr.heap.size 0 (encR r) hth j u hu;rw [Nat.zero_add] at this;exact this
   have hxe : Ext wr ((wr.alloc (.cells #[.string ⟨#[]⟩,.bool false,.slice none 0 0,.slice none 0 0,.int .i64 0,.int .i64 0,.int .i64 0,.int .i64 0,.string ⟨#[]⟩,.slice none 0 0,.slice none 0 0,.int .i64 0,.int .i64 0,.int .i64 0,.int .i64 0,.int .i64 0,.int .i64 0,.int .i64 0,.int .i64 0] 69)).setCells wr.heap.size 0 (encR r).toArray.toList) := Keeps.ext za (keeps_setCells wr.heap.size (encR r) 0 _) (fun g hg => by omega);generalize (wr.alloc (.cells #[.string ⟨#[]⟩,.bool false,.slice none 0 0,.slice none 0 0,.int .i64 0,.int .i64 0,.int .i64 0,.int .i64 0,.string ⟨#[]⟩,.slice none 0 0,.slice none 0 0,.int .i64 0,.int .i64 0,.int .i64 0,.int .i64 0,.int .i64 0,.int .i64 0,.int .i64 0,.int .i64 0] 69)).setCells wr.heap.size 0 (encR r).toArray.toList = W at hce hxe ⊢;clear hb8 hth
   go_upto_region 7 with (fail)
   refine wp_region_lit ?_;refine wpList_load_mid rfl 69 (.tmp 8) rfl wr.heap.size 0 rfl (encR r) dd (fun j v hv => by rw [Nat.zero_add]; exact hce.2 j v hv) hd1 hd2 Tryz.ruleSize ?_
   go_wp2_with fail
   have hokW : RuleOk W r := HOR.out.1.ext (Ext.trans hE hxe);refine (hrchk_any r rates W hokW HOR.out.2 (HM.out.ext (Ext.trans hE hxe))).mono ?_;rintro e W2 ⟨rfl,E2⟩;obtain ⟨z,hz⟩ : ∃ z,rchk r rates = z := ⟨_,rfl⟩;rw [hz];have HZ := hide hz;clear hz;by_cases h0 : z = 0
   rotate_left
   ·have hb : (z != 0) = true := (by simp [h0]);have HN := hide (nerr_at R rates k hlt H20.out HAL.out (by rw [HR.out,HZ.out]; exact h0));go_wp2;go_ret2;refine ⟨Ext.trans hE (Ext.trans hxe E2),.inl ?_⟩;rw [HN.out,HR.out,HZ.out];exact ⟨h0,rfl⟩
   subst h0
   go_upto_region 10 with (fail)
   have HXE := hide (Ext.trans hxe E2);have hce2 := hce.ext E2;have hok2 : RuleOk W2 r := hokW.ext E2;clear hce hxe hokW E2;obtain ⟨hT1,⟨vr,vi,hT2,hT3,hT4⟩,hT5⟩ := HT.out.ext HXE.out;have h62 := (HXE.out.block _ (zg H6.out)).trans H6.out;have hsm := rchk_small r rates HOR.out.2 HZ.out;have hE2 : Ext w W2 := Ext.trans hE HXE.out
   have hl6 : ∀ vs X,PhA w.heap.size wr.heap.size W2 vr vi Rs (upTo k) r vs X -> X.cell? ⟨w.heap.size + 1,0,none⟩ = some (.pointer (some ⟨w.heap.size,0,none⟩)) := by
    have hbl : ∀ X : World,X.heap[w.heap.size + 1]? = some (.cells #[.pointer (some ⟨w.heap.size,0,none⟩)] 40 (0,0)) -> X.cell? ⟨w.heap.size + 1,0,none⟩ = some (.pointer (some ⟨w.heap.size,0,none⟩)) := fun X hX => by
     simp only [World.cell?,hX];rfl
    have hlt6 := (zg h62);have hne6 : ¬ vr.ownBlock = some (w.heap.size + 1) := fun e => absurd (owns_type hT3 e h62) (by decide);intro vs X h;apply hbl;rcases vs with _ | ⟨u,_ | ⟨s,_ | ⟨v,_ | ⟨z,_ | ⟨y,vs⟩⟩⟩⟩⟩
    ·exact (h.block _ hlt6).trans h62
    ·exact (h.1.block _ hlt6).trans h62
    ·exact (h.1.block _ hlt6).trans h62
    ·obtain ⟨r',x,y,-,-,-,-,hk⟩ := h;exact (hk.block _ hlt6 hne6).trans h62
    ·obtain ⟨w1,r',-,-,-,hk,rfl⟩ := h;exact (Below.heap_setCell _ _ _ _ (by simp)).trans ((hk.block _ hlt6 hne6).trans h62)
    ·exact h.elim
   have hlr : ∀ vs X,vs.length <= 2 -> PhA w.heap.size wr.heap.size W2 vr vi Rs (upTo k) r vs X -> X.cell? ⟨w.heap.size,0,none⟩ = some vr := by
    have hbl : ∀ X : World,X.heap[w.heap.size]? = some (.cells #[vr,vi] 99 (0,0)) -> X.cell? ⟨w.heap.size,0,none⟩ = some vr := fun X hX => by
     simp only [World.cell?,hX];rfl
    have hlt0 := (zg hT2);intro vs X hn h;apply hbl;rcases vs with _ | ⟨u,_ | ⟨s,_ | ⟨v,vs⟩⟩⟩
    ·exact (h.block _ hlt0).trans hT2
    ·exact (h.1.block _ hlt0).trans hT2
    ·exact (h.1.block _ hlt0).trans hT2
    ·simp at hn
   have hlb : ∀ vs X,vs.length <= 0 -> PhA w.heap.size wr.heap.size W2 vr vi Rs (upTo k) r vs X -> CellR X wr.heap.size r := by
    intro vs X hn h;rcases vs with _ | ⟨u,vs⟩
    ·exact hce2.ext h
    ·simp at hn
   have HL6 := hide hl6;have HLR := hide hlr;have HLB := hide hlb;have HT2 := hide hT2;have HT3 := hide hT3;have HT4 := hide hT4;have HT5 := hide hT5;have H62 := hide h62;have HSM := hide hsm;have HE2 := hide hE2;have HRL := hide (show Rs.length <= 20 by have := core_len HCO.out; rw [List.length_take] at this; have := H20.out; omega);obtain ⟨ir,zr,hir0,hir1,hir2,hir3,hir4⟩ := info_partsR;have HOK2 := hide hok2;clear hl6 hlr hlb hT2 hT3 hT4 hT5 h62 hsm hE2 hok2 hce2 hT1;refine wp_region_ph 57 [6,7,8,11] (PhA w.heap.size wr.heap.size W2 vr vi Rs (upTo k) r) (fun t v => match t with | 0 => v = .slice (some ⟨b,off,none⟩) R.length c | 1 => v = .int .i64 rates | 2 => v = undef | 3 => v = undef | 6 => v = .pointer (some ⟨w.heap.size + 1,0,none⟩) | 7 => v = .int .i64 k | 8 => v = .pointer (some ⟨wr.heap.size,0,none⟩) | 10 => v = .slice (some ⟨b,off,none⟩) R.length c | 11 => v = .int .i64 R.length | 12 => v = .bool false | 13 => v = .agg #[.slice none 0 0,.slice none 0 0] | 14 => v = .pointer (some ⟨w.heap.size,0,none⟩) | 15 => v = .slice (some ⟨b,off,none⟩) R.length c | 16 => v = .int .i64 R.length | 17 => v = .int .i64 k | 28 => v = .pointer (some ⟨w.heap.size,0,none⟩) | 29 => v = .pointer (some ⟨w.heap.size,0,none⟩) | 30 => v = .pointer (some ⟨w.heap.size,0,none⟩) | 31 => v = .pointer (some ⟨w.heap.size,0,none⟩) | 32 => v = vr | 33 => v = r.val | 37 => v = .pointer (some ⟨w.heap.size,0,none⟩) | 38 => v = .pointer (some ⟨w.heap.size,0,none⟩) | 50 => v = undef | 51 => v = undef | 52 => v = undef | 53 => v = undef | 54 => v = undef | 55 => v = undef | 56 => v = undef | _ => True) (by kernel_rfl) rfl (by kernel_rfl) (by kernel_rfl) (by kernel_rfl) ?_ ?_ ?_ ?_ ?_
   ·exact zb.drew
   ·intro t ht hno;split <;> first | exact True.intro | exact rfl | exact zn hno
   ·intro i o ho hmi vs X w' hpk hph hX hI K hK;have hin : i < 12 := (zg ho);rcases zo hin with rfl | rfl | rfl | rfl | rfl | rfl | rfl | rfl | rfl | rfl | rfl | rfl
    all_goals first | (exact absurd hmi (by decide)) | (obtain rfl := Option.some.inj ho; unfold wpOp; simp only [ho]; rw [if_pos (by rfl)]; left; rw [frame57])
    ·have e6 : X 6 = _ := zk1 (hI 6);have c0 := HL6.out vs w' hph;go_simp;refine zm0 hK (.pointer (some ⟨w.heap.size,0,none⟩)) ?_;simp [frame57,Act.put, *]
    ·have e6 : X 6 = _ := zk1 (hI 6);have c0 := HL6.out vs w' hph;go_simp;refine zm0 hK (.pointer (some ⟨w.heap.size,0,none⟩)) ?_;simp [frame57,Act.put, *]
    ·have e29 : X 29 = _ := zk1 (hI 29);go_simp;refine zm0 hK (.pointer (some ⟨w.heap.size,0,none⟩)) ?_;simp [frame57,Act.put, *]
    ·have e30 : X 30 = _ := zk1 (hI 30);go_simp;refine zm0 hK (.pointer (some ⟨w.heap.size,0,none⟩)) ?_;simp [frame57,Act.put, *]
    ·have e31 : X 31 = _ := zk1 (hI 31);have c0 := HLR.out vs w' ((hpk 2 (by decide)).2 (by kernel_rfl)) hph;go_simp;refine zm0 hK (vr) ?_;simp [frame57,Act.put, *]
    ·have e8 : X 8 = _ := zk1 (hI 8);have hcr := HLB.out vs w' ((hpk 0 (by decide)).2 (by kernel_rfl)) hph;refine wp_load_mid 69 (.tmp 8) rfl wr.heap.size 0 e8 (encR r) dd (fun j v hv => by rw [Nat.zero_add]; exact hcr.2 j v hv) hd1 hd2 Tryz.ruleSize ?_;refine zm0 hK r.val ?_;rfl
    ·have e28 : X 28 = _ := zk1 (hI 28);go_simp;refine zm0 hK (.pointer (some ⟨w.heap.size,0,none⟩)) ?_;simp [frame57,Act.put, *]
    ·have e37 : X 37 = _ := zk1 (hI 37);go_simp;refine zm0 hK (.pointer (some ⟨w.heap.size,0,none⟩)) ?_;simp [frame57,Act.put, *]
   ·intro i o ho hmi vs X w' hqi hql hph hX hI K hK;rcases vs with _ | ⟨v0,_ | ⟨v1,_ | ⟨v2,_ | ⟨v3,_⟩⟩⟩⟩
    ·obtain rfl : 6 = i := hqi;obtain rfl := Option.some.inj ho;have e33 : X 33 = _ := zk1 (hI 33);unfold wpOp;simp only [ho];rw [if_pos (by rfl)];left;rw [frame57];go_simp;refine (twin_any r w' (HOK2.out.ext hph) HSM.out).mono ?_;rintro e w9 ⟨r',rfl,hsame,hown,E9⟩;refine metK (hK.out r'.val w9 ⟨Ext.trans hph E9,r',rfl,hsame,hown.mono (Nat.le_trans HE2.out.size hph.size)⟩) ?_;simp [frame57,Act.put, *]
    ·obtain rfl : 7 = i := hqi;obtain rfl := Option.some.inj ho;have e34 : X 34 = v0 := hX 0 34 (by simp) (by kernel_rfl);obtain ⟨hE1,r',rfl,hsame,hown⟩ := hph;have hown' := hown;obtain ⟨path,ex,hv,H,pv,P,mi,ab,de,ti,pre,sv,S,dv,D,q0,q1,q2,q3,q4,q5,q6,rate⟩ := r';obtain ⟨a1,c1,s1⟩ := owns_shape hown.1;obtain ⟨a2,c2,s2⟩ := owns_shape hown.2.1;obtain ⟨a3,c3,s3⟩ := owns_shape hown.2.2.1;obtain ⟨a4,c4,s4⟩ := owns_shape hown.2.2.2;simp only at s1 s2 s3 s4;subst s1 s2 s3 s4;simp only [RuleD.val] at e34;clear hown;unfold wpOp;simp only [ho];rw [if_pos (by rfl)];left;rw [frame57];go_simp;refine metK (hK.out (.slice (some ⟨w'.heap.size,0,none⟩) 1 1) _ ⟨hE1.trans za,_,rfl,hsame,hown'.ext za,rules_new1 w' _ _⟩) ?_;simp [frame57,Act.put, *]
    ·obtain rfl : 8 = i := hqi;obtain rfl := Option.some.inj ho;have e32 : X 32 = _ := zk1 (hI 32);have e35 : X 35 = v1 := hX 1 35 (by simp) (by kernel_rfl);obtain ⟨hE1,r',rfl,hsame,hown,hsl⟩ := hph;unfold wpOp;simp only [ho];rw [if_pos (by rfl)];left;rw [frame57];refine wp_append_sl (enc := encR) _ _ _ rfl w.heap.size 69 ir zr 19 232 Tryz.underlying25 hir0 hir1 hir2 hir3 hir4 (by decide) encR_len vr Rs.length (Rs.flatMap encR) e32 (owns_ext HT3.out hE1) _ e35 [r'] hsl (fun x hx => by rw [List.mem_singleton.1 hx]; exact encR_one r' hown) (by unfold maxLen; have := HRL.out; simp; omega) (by have := HRL.out; simp; omega) (Nat.le_trans HE2.out.size hE1.size) ?_;intro v' w'' ho hg;obtain ⟨x,y,rfl⟩ := owns_shape ho;have hk : Keeps (fun g => vr.ownBlock = some g) w' w'' := Keeps.of_grown hg (fun g h => h);refine metK (hK.out (.slice x (Rs.length + 1) y) w'' ⟨r',x,y,hsame,hown.keeps hk (fun g hg hX => ?_),rfl,by simpa using ho,(Keeps.of_ext hE1).trans hk⟩) ?_
     ·obtain ⟨cs,fz,hcs⟩ := ownsRow_kind (owns_ext HT3.out hE1) g hX;have h1 := owns_type (owns_ext HT3.out hE1) hX hcs;rcases hown.type hg hcs with h | h | h <;> exact absurd (h1.symm.trans h) (by decide)
     ·simp [frame57,Act.put, *]
    ·obtain rfl : 11 = i := hqi;obtain rfl := Option.some.inj ho;have e36 : X 36 = v2 := hX 2 36 (by simp) (by kernel_rfl);have e38 : X 38 = _ := zk1 (hI 38);obtain ⟨r',x,y,hsame,hown,rfl,hwn,hk⟩ := hph;have hne0 : ¬ vr.ownBlock = some w.heap.size := fun e => absurd (owns_type HT3.out e HT2.out) (by decide);have hb0 := (hk.block _ (zg HT2.out) hne0).trans HT2.out;have c0 : w'.cell? ⟨w.heap.size,0,none⟩ = some vr := (by simp only [World.cell?,hb0]; rfl);have z0 : w'.frozen? ⟨w.heap.size,0,none⟩ = false := (by simp [World.frozen?,hb0]);unfold wpOp;simp only [ho];rw [if_pos (by rfl)];left;rw [frame57];go_simp;refine metK (hK.out undef _ ⟨w',r',hsame,hown,hwn,hk,rfl⟩) ?_;simp [frame57,Act.put, *]
    ·simp at hql <;> omega
   ·intro vs X w' hlen hph hX hI;have e0 : X 0 = _ := zk3 (hI 0);have e1 : X 1 = _ := zk3 (hI 1);have e2 : X 2 = _ := zk3 (hI 2);have e3 : X 3 = _ := zk3 (hI 3);have e6 : X 6 = _ := zk3 (hI 6);have e7 : X 7 = _ := zk3 (hI 7);have e8 : X 8 = _ := zk3 (hI 8);have e10 : X 10 = _ := zk3 (hI 10);have e11 : X 11 = _ := zk3 (hI 11);have e12 : X 12 = _ := zk3 (hI 12);have e13 : X 13 = _ := zk3 (hI 13);have e14 : X 14 = _ := zk3 (hI 14);have e15 : X 15 = _ := zk3 (hI 15);have e16 : X 16 = _ := zk3 (hI 16);have e17 : X 17 = _ := zk3 (hI 17);have e28 : X 28 = _ := zk3 (hI 28);have e29 : X 29 = _ := zk3 (hI 29);have e30 : X 30 = _ := zk3 (hI 30);have e31 : X 31 = _ := zk3 (hI 31);have e32 : X 32 = _ := zk3 (hI 32);have e33 : X 33 = _ := zk3 (hI 33);have e37 : X 37 = _ := zk3 (hI 37);have e38 : X 38 = _ := zk3 (hI 38);have e50 : X 50 = _ := zk3 (hI 50);have e51 : X 51 = _ := zk3 (hI 51);have e52 : X 52 = _ := zk3 (hI 52);have e53 : X 53 = _ := zk3 (hI 53);have e54 : X 54 = _ := zk3 (hI 54);have e55 : X 55 = _ := zk3 (hI 55);have e56 : X 56 = _ := zk3 (hI 56);rcases vs with _ | ⟨v0,_ | ⟨v1,_ | ⟨v2,_ | ⟨v3,_ | ⟨vz,vs⟩⟩⟩⟩⟩
    ·simp at hlen
    ·simp at hlen
    ·simp at hlen
    ·simp at hlen
    rotate_left
    ·simp at hlen
    have e34 : X 34 = v0 := hX 0 34 (by simp) (by kernel_rfl);have e35 : X 35 = v1 := hX 1 35 (by simp) (by kernel_rfl);have e36 : X 36 = v2 := hX 2 36 (by simp) (by kernel_rfl);clear hX hI hlen;rw [frame57];simp only [e0,e1,e2,e3,e6,e7,e8,e10,e11,e12,e13,e14,e15,e16,e17,e28,e29,e30,e31,e32,e33,e34,e35,e36,e37,e38,e50,e51,e52,e53,e54,e55,e56];obtain ⟨w1,r',hsame,hown,ho,hk,rfl⟩ := hph;have hne0 : ¬ vr.ownBlock = some w.heap.size := fun e => absurd (owns_type HT3.out e HT2.out) (by decide);have hne6 : ¬ vr.ownBlock = some (w.heap.size + 1) := fun e => absurd (owns_type HT3.out e H62.out) (by decide);have hb0 := (hk.block _ (zg HT2.out) hne0).trans HT2.out;have hb6 := (hk.block _ (zg H62.out) hne6).trans H62.out;have hs := Keeps.of_set (X := fun g => g = w.heap.size) w1 w.heap.size 0 v2 rfl;have hE3 : Ext w (w1.setCell ⟨w.heap.size,0,none⟩ v2) := Keeps.ext (Keeps.ext HE2.out hk (fun g hg => (HT3.out.lt g hg).1)) hs (fun g hg => by omega);have hvi : ∀ g,vi.ownBlock = some g -> ¬ vr.ownBlock = some g := fun g h1 h2 => owns_ne HT3.out HT4.out (by decide) g h2 h1;have ht4 := owns_keeps HT4.out hk hvi
    have hT' : TabAt w.heap.size (w1.setCell ⟨w.heap.size,0,none⟩ v2) w.heap.size (Rs ++ [r']) (upTo k) := by
     refine ⟨Nat.le_refl _,⟨v2,vi, ?_, ?_, ?_⟩, ?_⟩
     ·have := (Arr.set (t := 99) (n := 2) (f := fun i => if i = 0 then vr else vi) ⟨_,hb0,rfl,fun i hi => by rcases (by omega : i = 0 \/ i = 1) with rfl | rfl <;> rfl⟩ 0 v2)
      obtain ⟨cs,h1,h2,h3⟩ := this;rw [h1]
      have : cs = #[v2,vi] := by
       apply Array.ext_getElem?;intro i;by_cases hi : i < 2
       ·rcases (by omega : i = 0 \/ i = 1) with rfl | rfl
        ·rw [h3 0 (by omega)]; rfl
        ·rw [h3 1 (by omega)]; rfl
       ·rw [Array.getElem?_eq_none (by omega),Array.getElem?_eq_none (by simp; omega)]
      rw [this]
     ·have h1 := owns_keeps ho hs (fun g hg e => by subst e; exact absurd (owns_type ho hg hb0) (by decide));simpa using h1
     ·exact owns_keeps ht4 hs (fun g hg e => by subst e; exact absurd (owns_type ht4 hg hb0) (by decide))
     ·intro q hq;rcases List.mem_append.1 hq with hq | hq
      ·have h1 := (HT5.out q hq).keeps hk (fun g hg hX => by
        obtain ⟨cs,fz,hcs⟩ := ownsRow_kind HT3.out g hX;have h1 := owns_type HT3.out hX hcs
        rcases (HT5.out q hq).type hg hcs with h | h | h <;> exact absurd (h1.symm.trans h) (by decide))
       exact h1.keeps hs (fun g hg e => by subst e; rcases h1.type hg hb0 with h | h | h <;> exact absurd h (by decide))
      ·rw [List.mem_singleton.1 hq];exact hown.keeps hs (fun g hg e => by subst e; rcases hown.type hg hb0 with h | h | h <;> exact absurd h (by decide))
    have h6' : (w1.setCell ⟨w.heap.size,0,none⟩ v2).heap[w.heap.size + 1]? = some (.cells #[.pointer (some ⟨w.heap.size,0,none⟩)] 40 (0,0)) := (Below.heap_setCell _ _ _ _ (by simp)).trans hb6;have hco' : (Rs ++ [r']).map RuleD.core = (R.take (k + 1)).map RuleD.core := by rw [take_snoc R k hlt,List.map_append,List.map_append,HCO.out,HR.out]; simp [hsame.core]
    have hal' : ∀ x ∈ R.take (k + 1),rchk x rates = 0 := by
     intro x hx;rw [take_snoc R k hlt] at hx;rcases List.mem_append.1 hx with hx | hx
     ·exact HAL.out x hx
     ·rw [List.mem_singleton.1 hx,HR.out]; exact HZ.out
    generalize (w1.setCell ⟨w.heap.size,0,none⟩ v2) = W3 at *;clear hs hk ho hown hb0 hb6 hne0 hne6 hvi ht4 HL6 HLR HLB HT2 HT3 HT4 HT5 H62 HE2 HOK2;generalize Rs ++ [r'] = Rs' at *
    go_upto_region 11 with (fail)
    have HCO2 := hide hco';have HAL2 := hide hal';have HE3 := hide hE3;clear hco' hal' hE3;obtain ⟨-,⟨vr3,vi3,hS2,hS3,hS4⟩,hS5⟩ := hT'
    have hl6 : ∀ vs X,PhB w.heap.size W3 vi3 (upTo k) k vs X -> X.cell? ⟨w.heap.size + 1,0,none⟩ = some (.pointer (some ⟨w.heap.size,0,none⟩)) := by
     have hbl : ∀ X : World,X.heap[w.heap.size + 1]? = some (.cells #[.pointer (some ⟨w.heap.size,0,none⟩)] 40 (0,0)) -> X.cell? ⟨w.heap.size + 1,0,none⟩ = some (.pointer (some ⟨w.heap.size,0,none⟩)) := fun X hX => by
      simp only [World.cell?,hX];rfl
     have hlt6 := (zg h6');have hne6 : ¬ vi3.ownBlock = some (w.heap.size + 1) := fun e => absurd (owns_type hS4 e h6') (by decide);intro vs X h;apply hbl;rcases vs with _ | ⟨s,_ | ⟨v,_ | ⟨z,_ | ⟨y,vs⟩⟩⟩⟩
     ·exact (h.block _ hlt6).trans h6'
     ·exact (h.1.block _ hlt6).trans h6'
     ·obtain ⟨x,y,-,-,hk⟩ := h;exact (hk.block _ hlt6 hne6).trans h6'
     ·obtain ⟨w1,-,hk,rfl⟩ := h;exact (Below.heap_setCell _ _ _ _ (by simp)).trans ((hk.block _ hlt6 hne6).trans h6')
     ·exact h.elim
    have hlr : ∀ vs X,vs.length <= 1 -> PhB w.heap.size W3 vi3 (upTo k) k vs X -> X.cell? ⟨w.heap.size,1,none⟩ = some vi3 := by
     have hbl : ∀ X : World,X.heap[w.heap.size]? = some (.cells #[vr3,vi3] 99 (0,0)) -> X.cell? ⟨w.heap.size,1,none⟩ = some vi3 := fun X hX => by
      simp only [World.cell?,hX];rfl
     have hlt0 := (zg hS2);intro vs X hn h;apply hbl;rcases vs with _ | ⟨s,_ | ⟨v,vs⟩⟩
     ·exact (h.block _ hlt0).trans hS2
     ·exact (h.1.block _ hlt0).trans hS2
     ·simp at hn
    have HL6 := hide hl6;have HLR := hide hlr;have HT2 := hide hS2;have HT3 := hide hS3;have HT4 := hide hS4;have HT5 := hide hS5;have H62 := hide h6';obtain ⟨ii,hii0,hii1,hii2,hii3⟩ := info_partsS Tryz.infoI;clear hl6 hlr hS2 hS3 hS4 hS5 h6';refine wp_region_ph 57 [6,7,10] (PhB w.heap.size W3 vi3 (upTo k) k) (fun t v => match t with | 0 => v = .slice (some ⟨b,off,none⟩) R.length c | 1 => v = .int .i64 rates | 2 => v = undef | 3 => v = undef | 6 => v = .pointer (some ⟨w.heap.size + 1,0,none⟩) | 7 => v = .int .i64 k | 8 => v = .pointer (some ⟨wr.heap.size,0,none⟩) | 10 => v = .slice (some ⟨b,off,none⟩) R.length c | 11 => v = .int .i64 R.length | 12 => v = .bool false | 13 => v = .agg #[.slice none 0 0,.slice none 0 0] | 14 => v = .pointer (some ⟨w.heap.size,0,none⟩) | 15 => v = .slice (some ⟨b,off,none⟩) R.length c | 16 => v = .int .i64 R.length | 17 => v = .int .i64 k | 39 => v = .pointer (some ⟨w.heap.size,0,none⟩) | 40 => v = .pointer (some ⟨w.heap.size,0,none⟩) | 41 => v = .pointer (some ⟨w.heap.size,0,none⟩) | 42 => v = .pointer (some ⟨w.heap.size,1,none⟩) | 43 => v = vi3 | 44 => v = .int .i64 k | 47 => v = .pointer (some ⟨w.heap.size,0,none⟩) | 48 => v = .pointer (some ⟨w.heap.size,1,none⟩) | 50 => v = undef | 51 => v = undef | 52 => v = undef | 53 => v = undef | 54 => v = undef | 55 => v = undef | 56 => v = undef | _ => True) (by kernel_rfl) rfl (by kernel_rfl) (by kernel_rfl) (by kernel_rfl) ?_ ?_ ?_ ?_ ?_
    ·exact zb.drew
    ·intro t ht hno;split <;> first | exact True.intro | exact rfl | exact zn hno
    ·intro i o ho hmi vs X w' hpk hph hX hI K hK;have hin : i < 11 := (zg ho);rcases zo hin with rfl | rfl | rfl | rfl | rfl | rfl | rfl | rfl | rfl | rfl | rfl
     all_goals first | (exact absurd hmi (by decide)) | (obtain rfl := Option.some.inj ho; unfold wpOp; simp only [ho]; rw [if_pos (by rfl)]; left; rw [frame57])
     ·have e6 : X 6 = _ := zk1 (hI 6);have c0 := HL6.out vs w' hph;go_simp;refine zm0 hK (.pointer (some ⟨w.heap.size,0,none⟩)) ?_;simp [frame57,Act.put, *]
     ·have e6 : X 6 = _ := zk1 (hI 6);have c0 := HL6.out vs w' hph;go_simp;refine zm0 hK (.pointer (some ⟨w.heap.size,0,none⟩)) ?_;simp [frame57,Act.put, *]
     ·have e40 : X 40 = _ := zk1 (hI 40);go_simp;refine zm0 hK (.pointer (some ⟨w.heap.size,0,none⟩)) ?_;simp [frame57,Act.put, *]
     ·have e41 : X 41 = _ := zk1 (hI 41);go_simp;refine zm0 hK (.pointer (some ⟨w.heap.size,1,none⟩)) ?_;simp [frame57,Act.put, *]
     ·have e42 : X 42 = _ := zk1 (hI 42);have c0 := HLR.out vs w' ((hpk 1 (by decide)).2 (by kernel_rfl)) hph;go_simp;refine zm0 hK (vi3) ?_;simp [frame57,Act.put, *]
     ·have e7 : X 7 = _ := zk1 (hI 7);go_simp;refine zm0 hK (.int .i64 k) ?_;simp [frame57,Act.put, *]
     ·have e39 : X 39 = _ := zk1 (hI 39);go_simp;refine zm0 hK (.pointer (some ⟨w.heap.size,0,none⟩)) ?_;simp [frame57,Act.put, *]
     ·have e47 : X 47 = _ := zk1 (hI 47);go_simp;refine zm0 hK (.pointer (some ⟨w.heap.size,1,none⟩)) ?_;simp [frame57,Act.put, *]
    ·intro i o ho hmi vs X w' hqi hql hph hX hI K hK;rcases vs with _ | ⟨v0,_ | ⟨v1,_ | ⟨v2,_⟩⟩⟩
     ·obtain rfl : 6 = i := hqi;obtain rfl := Option.some.inj ho;have e44 : X 44 = _ := zk1 (hI 44);unfold wpOp;simp only [ho];rw [if_pos (by rfl)];left;rw [frame57];go_simp;refine metK (hK.out (.slice (some ⟨w'.heap.size,0,none⟩) 1 1) _ ⟨hph.trans za,ints_new1 w' _ _⟩) ?_;simp [frame57,Act.put, *]
     ·obtain rfl : 7 = i := hqi;obtain rfl := Option.some.inj ho;have e43 : X 43 = _ := zk1 (hI 43);have e45 : X 45 = v0 := hX 0 45 (by simp) (by kernel_rfl);obtain ⟨hE1,hsl⟩ := hph;unfold wpOp;simp only [ho];rw [if_pos (by rfl)];left;rw [frame57];refine wp_append_sl (enc := encI) _ _ _ rfl w.heap.size 3 ii (.int .i64 0) 1 8 Tryz.underlying22 hii0 hii1 hii2 hii3 rfl (by decide) (fun _ => rfl) vi3 (upTo k).length ((upTo k).flatMap encI) e43 (owns_ext HT4.out hE1) _ e45 [(k : Int)] hsl (fun x hx => encI_one x) (by rw [upTo_len]; unfold maxLen; have := H20.out; simp; omega) (by rw [upTo_len]; have := H20.out; simp; omega) (Nat.le_trans HE3.out.size hE1.size) ?_;intro v' w'' hwn hg;obtain ⟨x,y,rfl⟩ := owns_shape hwn;have hk : Keeps (fun g => vi3.ownBlock = some g) w' w'' := Keeps.of_grown hg (fun g h => h);refine metK (hK.out (.slice x ((upTo k).length + 1) y) w'' ⟨x,y,rfl,by simpa [encI] using hwn,(Keeps.of_ext hE1).trans hk⟩) ?_;simp [frame57,Act.put, *]
     ·obtain rfl : 10 = i := hqi;obtain rfl := Option.some.inj ho;have e46 : X 46 = v1 := hX 1 46 (by simp) (by kernel_rfl);have e48 : X 48 = _ := zk1 (hI 48);obtain ⟨x,y,rfl,hwn,hk⟩ := hph;have hne0 : ¬ vi3.ownBlock = some w.heap.size := fun e => absurd (owns_type HT4.out e HT2.out) (by decide);have hb0 := (hk.block _ (zg HT2.out) hne0).trans HT2.out;have c0 : w'.cell? ⟨w.heap.size,1,none⟩ = some vi3 := (by simp only [World.cell?,hb0]; rfl);have z0 : w'.frozen? ⟨w.heap.size,1,none⟩ = false := (by simp [World.frozen?,hb0]);unfold wpOp;simp only [ho];rw [if_pos (by rfl)];left;rw [frame57];go_simp;refine metK (hK.out undef _ ⟨w',hwn,hk,rfl⟩) ?_;simp [frame57,Act.put, *]
     ·simp at hql <;> omega
    ·intro vs X w' hlen hph hX hI;have e0 : X 0 = _ := zk3 (hI 0);have e1 : X 1 = _ := zk3 (hI 1);have e2 : X 2 = _ := zk3 (hI 2);have e3 : X 3 = _ := zk3 (hI 3);have e6 : X 6 = _ := zk3 (hI 6);have e7 : X 7 = _ := zk3 (hI 7);have e8 : X 8 = _ := zk3 (hI 8);have e10 : X 10 = _ := zk3 (hI 10);have e11 : X 11 = _ := zk3 (hI 11);have e12 : X 12 = _ := zk3 (hI 12);have e13 : X 13 = _ := zk3 (hI 13);have e14 : X 14 = _ := zk3 (hI 14);have e15 : X 15 = _ := zk3 (hI 15);have e16 : X 16 = _ := zk3 (hI 16);have e17 : X 17 = _ := zk3 (hI 17);have e39 : X 39 = _ := zk3 (hI 39);have e40 : X 40 = _ := zk3 (hI 40);have e41 : X 41 = _ := zk3 (hI 41);have e42 : X 42 = _ := zk3 (hI 42);have e43 : X 43 = _ := zk3 (hI 43);have e44 : X 44 = _ := zk3 (hI 44);have e47 : X 47 = _ := zk3 (hI 47);have e48 : X 48 = _ := zk3 (hI 48);have e50 : X 50 = _ := zk3 (hI 50);have e51 : X 51 = _ := zk3 (hI 51);have e52 : X 52 = _ := zk3 (hI 52);have e53 : X 53 = _ := zk3 (hI 53);have e54 : X 54 = _ := zk3 (hI 54);have e55 : X 55 = _ := zk3 (hI 55);have e56 : X 56 = _ := zk3 (hI 56);rcases vs with _ | ⟨v0,_ | ⟨v1,_ | ⟨v2,_ | ⟨vz,vs⟩⟩⟩⟩
     ·simp at hlen
     ·simp at hlen
     ·simp at hlen
     rotate_left
     ·simp at hlen
     have e45 : X 45 = v0 := hX 0 45 (by simp) (by kernel_rfl);have e46 : X 46 = v1 := hX 1 46 (by simp) (by kernel_rfl);clear hX hI hlen;rw [frame57];simp only [e0,e1,e2,e3,e6,e7,e8,e10,e11,e12,e13,e14,e15,e16,e17,e39,e40,e41,e42,e43,e44,e45,e46,e47,e48,e50,e51,e52,e53,e54,e55,e56];obtain ⟨w1,hwn,hk,rfl⟩ := hph;have hne0 : ¬ vi3.ownBlock = some w.heap.size := fun e => absurd (owns_type HT4.out e HT2.out) (by decide);have hne6 : ¬ vi3.ownBlock = some (w.heap.size + 1) := fun e => absurd (owns_type HT4.out e H62.out) (by decide);have hb0 := (hk.block _ (zg HT2.out) hne0).trans HT2.out;have hb6 := (hk.block _ (zg H62.out) hne6).trans H62.out;have hs := Keeps.of_set (X := fun g => g = w.heap.size) w1 w.heap.size 1 v1 rfl;have hE4 : Ext w (w1.setCell ⟨w.heap.size,1,none⟩ v1) := Keeps.ext (Keeps.ext HE3.out hk (fun g hg => (HT4.out.lt g hg).1)) hs (fun g hg => by omega);have hvi : ∀ g,vr3.ownBlock = some g -> ¬ vi3.ownBlock = some g := fun g h1 h2 => owns_ne HT3.out HT4.out (by decide) g h1 h2;have ht3 := owns_keeps HT3.out hk hvi
     have hT' : TabAt w.heap.size (w1.setCell ⟨w.heap.size,1,none⟩ v1) w.heap.size Rs' (upTo (k + 1)) := by
      refine ⟨Nat.le_refl _,⟨vr3,v1, ?_, ?_, ?_⟩, ?_⟩
      ·have := (Arr.set (t := 99) (n := 2) (f := fun i => if i = 0 then vr3 else vi3) ⟨_,hb0,rfl,fun i hi => by rcases (by omega : i = 0 \/ i = 1) with rfl | rfl <;> rfl⟩ 1 v1)
       obtain ⟨cs,h1,h2,h3⟩ := this;rw [h1]
       have : cs = #[vr3,v1] := by
        apply Array.ext_getElem?;intro i;by_cases hi : i < 2
        ·rcases (by omega : i = 0 \/ i = 1) with rfl | rfl
         ·rw [h3 0 (by omega)]; rfl
         ·rw [h3 1 (by omega)]; rfl
        ·rw [Array.getElem?_eq_none (by omega),Array.getElem?_eq_none (by simp; omega)]
       rw [this]
      ·exact owns_keeps ht3 hs (fun g hg e => by subst e; exact absurd (owns_type ht3 hg hb0) (by decide))
      ·have h1 := owns_keeps hwn hs (fun g hg e => by subst e; exact absurd (owns_type hwn hg hb0) (by decide));rw [upTo_succ];simpa [encI] using h1
      ·intro q hq
       have h1 := (HT5.out q hq).keeps hk (fun g hg hX => by
        obtain ⟨cs,fz,hcs⟩ := ownsRow_kind HT4.out g hX;have h1 := owns_type HT4.out hX hcs
        rcases (HT5.out q hq).type hg hcs with h | h | h <;> exact absurd (h1.symm.trans h) (by decide))
       exact h1.keeps hs (fun g hg e => by subst e; rcases h1.type hg hb0 with h | h | h <;> exact absurd h (by decide))
     have h6' : (w1.setCell ⟨w.heap.size,1,none⟩ v1).heap[w.heap.size + 1]? = some (.cells #[.pointer (some ⟨w.heap.size,0,none⟩)] 40 (0,0)) := (Below.heap_setCell _ _ _ _ (by simp)).trans hb6;generalize (w1.setCell ⟨w.heap.size,1,none⟩ v1) = W4 at *;clear hs hk hwn hb0 hb6 hne0 hne6 hvi ht3 HL6 HLR HT2 HT3 HT4 HT5 H62 HE3;have HT9 := hide hT';have H69 := hide h6';have HE9 := hide hE4;clear hT' h6' hE4;go_wp2
     go_roundw
     case rel => exact ⟨k + 1,Rs',hlt,by go_num,HE9.out,HT9.out,H69.out,HCO2.out,HAL2.out⟩
     case measure => simp [intOf]; omega


  ·obtain rfl : k = R.length := (by omega);have hco := HCO.out;rw [List.take_length] at hco;have hal : ∀ x ∈ R,rchk x rates = 0 := fun x hx => HAL.out x (by rw [List.take_length]; exact hx);have hnz := nerr_all R rates H20.out hal;have hkm := keyR_map hco;have hlen := core_len hco;obtain ⟨-,⟨vr,vi,hT2,hT3,hT4⟩,hT5⟩ := HT.out;have h6 := H6.out
   have c6 : wr.cell? ⟨w.heap.size + 1,0,none⟩ = some (.pointer (some ⟨w.heap.size,0,none⟩)) := by
    simp only [World.cell?,h6];rfl
   have c1 : wr.cell? ⟨w.heap.size,1,none⟩ = some vi := by
    simp only [World.cell?,hT2];rfl
   have c0 : wr.cell? ⟨w.heap.size,0,none⟩ = some vr := by
    simp only [World.cell?,hT2];rfl
   have HC6 := hide c6;have HC0 := hide c0;have HT2 := hide hT2;have HT3 := hide hT3;have HT4 := hide hT4;have HT5 := hide hT5;have HKM := hide hkm;have HLE := hide hlen;have HNZ := hide hnz;have HCZ := hide hco;clear hT2 hT3 hT4 hT5 hkm hlen hnz hco hal c0 h6 HCO HAL;by_cases hn0 : R.length = 0
   ·have hR : R = [] := List.eq_nil_of_length_eq_zero hn0
    have hrow : rowR R = upTo R.length := by
     have hp := (rowL_spec (cfK_swo (R.map keyR)) R.length).1;unfold rowR;rw [hn0] at hp ⊢;exact List.perm_nil.1 hp
    obtain ⟨av,cv,hv⟩ : ∃ a c,vi = .slice a 0 c := by
     obtain ⟨a,c,h⟩ := owns_shape HT4.out;rw [upTo_len,hn0] at h;exact ⟨a,c,h⟩
    have HRW := hide hrow;have HN0 := hide hn0;clear hrow hn0 hR;subst hv
    go_wp2_with fail
    refine (ssort0_any av cv _ _ wr).mono ?_;rintro e w9 ⟨rfl,rfl⟩;go_wp2;go_ret2;refine ⟨hE,.inr ⟨HNZ.out,w.heap.size,Rs,rfl, ?_,HCZ.out⟩⟩;rw [HRW.out];exact HT.out
   ·obtain ⟨gi,ci,hv,hcap⟩ : ∃ g c,vi = .slice (some ⟨g,0,none⟩) R.length c /\ c <= maxLen := by
     have h := HT4.out;rw [upTo_len] at h;exact owns_form h (by omega)
    obtain ⟨gr,cr,hvr,-⟩ : ∃ g c,vr = .slice (some ⟨g,0,none⟩) R.length c /\ c <= maxLen := by
     have h := owns_form HT3.out (by rw [HLE.out]; omega);rw [HLE.out] at h;exact h
    subst hv hvr;have hgi := (HT4.out.lt gi rfl);have hri : RowI wr gi ci (upTo R.length).toArray := RowI.of_own HT4.out (by rw [upTo_len]);have hbi : ∃ cs fz,wr.heap[gi]? = some (.cells cs 3 fz) := ownsRow_kind HT4.out gi rfl
    have hne0 : w.heap.size ≠ gi := fun e => by
     obtain ⟨cs,fz,h⟩ := hbi;rw [<- e,HT2.out] at h;cases h
    have hne6 : w.heap.size + 1 ≠ gi := fun e => by
     obtain ⟨cs,fz,h⟩ := hbi;rw [<- e,H6.out] at h;cases h
    have hner : gr ≠ gi := fun e => by
     obtain ⟨cs,fz,h⟩ := hbi;rw [<- e] at h;exact absurd (owns_type HT3.out rfl h) (by decide)
    have hcells : ∀ q (hq : q < Rs.length) j u,(encR Rs[q])[j]? = some u -> wr.cell? ⟨gr,q * 19 + j,none⟩ = some u := fun q hq j u hu => by
     have := HT3.out.cells (g := gr) rfl (q * 19 + j) u (getElem?_flatMap_enc encR_len Rs q j Rs[q] u (List.getElem?_eq_getElem hq) hu);rw [add_cell] at this;exact this
    have hlt0 := (zg HT2.out);have hlt6 := (zg H6.out);have hltr := (HT3.out.lt gr rfl).2
    have hcmp : CmpOk wr gi R.length (.func (.func 45) #[] #[.pointer (some ⟨w.heap.size + 1,0,none⟩)]) (cfK (R.map keyR)) := by
     refine ⟨_,_,rfl,fun args X => by kernel_rfl, ?_⟩;intro X hX x y hx1 hx2 hy1 hy2;obtain ⟨ka,rfl⟩ := Int.eq_ofNat_of_zero_le hx1;obtain ⟨kb,rfl⟩ := Int.eq_ofNat_of_zero_le hy1;rw [<- HKM.out]
     exact rowcmp_any X w.heap.size (w.heap.size + 1) gr cr R.length Rs HLE.out (by have := H20.out; omega) ((hX.cell hlt6 hne6).trans HC6.out) ((hX.cell hlt0 hne0).trans HC0.out)
      (fun q hq j u hu => (hX.cell hltr hner).trans (hcells q hq j u hu)) (fun q hq => owns_shape (HT5.out q hq).1) ka kb (by omega) (by omega)
    have hin : InR R.length (upTo R.length).toArray := fun i hi => by
     have : i < R.length := (by simpa [upTo] using hi);rw [upTo_get R.length i this];omega
    have hss := ssort_any R.length gi ci R.length (upTo R.length).toArray _ (cfK (R.map keyR)) wr hin hcmp hri (by simp [upTo]) (by have := H20.out; omega);have HSS := hide hss;have HGI := hide hgi;have HBI := hide hbi;have HCAP := hide hcap;clear hss hcmp hin hcells hri hbi hlt0 hlt6 hltr hgi hcap;rw [upTo_len] at HT4
    go_wp2_with fail
    refine HSS.out.mono ?_;rintro e w9 ⟨rfl,hr9,hk9⟩;have h69 := (hk9.block _ (zg H6.out) hne6).trans H6.out
    have c69 : w9.cell? ⟨w.heap.size + 1,0,none⟩ = some (.pointer (some ⟨w.heap.size,0,none⟩)) := by
     simp only [World.cell?,h69];rfl
    have HR9 := hide hr9;have HK9 := hide hk9;clear hr9 hk9 h69;go_wp2;go_ret2
    have hsz9 : (Go.Sort.insertionSort (ltOf (cfK (R.map keyR))) (upTo R.length).toArray 0 (upTo R.length).toArray.size).size = R.length := by
     have := (isort_inR (ltOf (cfK (R.map keyR))) R.length (upTo R.length).toArray (fun i hi => by
      have : i < R.length := (by simpa [upTo] using hi);rw [upTo_get R.length i this]
      omega)).1
     rw [this];simp [upTo]
    have hun : (upTo R.length).toArray.size = R.length := (by simp [upTo]);refine ⟨Keeps.ext hE HK9.out (fun g hg => by have := HGI.out.1; omega),.inr ⟨HNZ.out,w.heap.size,Rs,rfl,⟨Nat.le_refl _,⟨_,.slice (some ⟨gi,0,none⟩) R.length ci,(HK9.out.block _ (zg HT2.out) hne0).trans HT2.out, ?_, ?_⟩, ?_⟩,HCZ.out⟩⟩
    ·exact owns_keeps HT3.out HK9.out (fun g hg e => by
      have h : gr = g := by simpa [Value.ownBlock] using hg
      exact hner (h.trans e))
    ·have := HR9.out.owns (B := w.heap.size) HGI.out.1 HCAP.out;rw [hsz9] at this
     have e : (Go.Sort.insertionSort (ltOf (cfK (R.map keyR))) (upTo R.length).toArray 0 (upTo R.length).toArray.size).toList = rowR R := by
      unfold rowR rowL;rw [hun]
     rw [e] at this;exact this
    ·intro q hq;refine (HT5.out q hq).keeps HK9.out (fun g hg e => ?_);obtain ⟨cs,fz,h⟩ := HBI.out;rw [<- e] at h;rcases (HT5.out q hq).type hg h with h' | h' | h' <;> exact absurd h' (by decide)
end Go.Proofs.YtoaiakhnnfbkdaaGreatDoor
