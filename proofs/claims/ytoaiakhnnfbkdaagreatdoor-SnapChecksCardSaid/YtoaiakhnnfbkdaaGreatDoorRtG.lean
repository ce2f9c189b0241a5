import Derived.Test.YtoaiakhnnfbkdaaGreatDoorZr
set_option maxRecDepth 100000
set_option maxHeartbeats 32000000
namespace Go.Proofs.YtoaiakhnnfbkdaaGreatDoor
open Go.ChangeShapes Go.WideShapes Go.ChangeAt Go.RowKit Go.Lib Go.Shelf
def askZ (mi ab de ti q0 q1 q2 q3 q4 q5 q6 rate rates m p x : Int) : List Int := [m,p,wchk 0 10 13 [mi],wchk 0 10000 16 [ab,de,ti],x,wchk 1 10000 16 [q0],wchk 1 8 16 [q1],wchk 0 10000 16 [q2,q3],wchk 0 100 16 [q4,q6],wchk 1 100 16 [q5],wchk 0 rates 15 [rate]]
def askLaw (Z : List Int) (w : World) (v : Value) : Prop := ∃ a c,v = .slice a 11 c /\ ∀ i (hi : i < Z.length),∃ b off u,a = some ⟨b,off,none⟩ /\ b < w.heap.size /\ w.cell? ⟨b,off + i,none⟩ = some u /\ Asks w u Z[i]
theorem askLaw.mk {Z : List Int} {w : World} {a : Option Addr} (h : ∀ i (hi : i < Z.length),∃ b off u,a = some ⟨b,off,none⟩ /\ b < w.heap.size /\ w.cell? ⟨b,off + i,none⟩ = some u /\ Asks w u Z[i]) : askLaw Z w (.slice a 11 11) := ⟨_,_,rfl,h⟩
def ckI (B C : Nat) (mi ab de ti q0 q1 q2 q3 q4 q5 q6 rate rates m p x : Int) (t : Nat) (w : World) (v : Value) : Prop :=
 match t with
 | 1 => v = .int .i64 rates
 | 2 => v = .pointer (some ⟨B,0,none⟩)
 | 5 => v = .pointer (some ⟨C,0,none⟩)
 | 4 => v = .int .i64 (((askZ mi ab de ti q0 q1 q2 q3 q4 q5 q6 rate rates m p x).find? (· != 0)).getD 0)
 | 8 => Asks w v m
 | 9 => Asks w v p
 | 10 => v = .pointer (some ⟨B,4,none⟩)
 | 11 => v = .int .i64 mi
 | 12 => Ints w v [mi]
 | 13 => Asks w v (wchk 0 10 13 [mi])
 | 14 => v = .pointer (some ⟨B,5,none⟩)
 | 15 => v = .pointer (some ⟨B,5,none⟩)
 | 16 => v = .int .i64 ab
 | 17 => v = .pointer (some ⟨B,5,none⟩)
 | 18 => v = .pointer (some ⟨B,6,none⟩)
 | 19 => v = .int .i64 de
 | 20 => v = .pointer (some ⟨B,5,none⟩)
 | 21 => v = .pointer (some ⟨B,7,none⟩)
 | 22 => v = .int .i64 ti
 | 23 => Ints w v [ab,de,ti]
 | 24 => Asks w v (wchk 0 10000 16 [ab,de,ti])
 | 25 => Asks w v x
 | 26 => v = .pointer (some ⟨C,0,none⟩)
 | 27 => v = .int .i64 q0
 | 28 => Ints w v [q0]
 | 29 => Asks w v (wchk 1 10000 16 [q0])
 | 30 => v = .pointer (some ⟨C,1,none⟩)
 | 31 => v = .int .i64 q1
 | 32 => Ints w v [q1]
 | 33 => Asks w v (wchk 1 8 16 [q1])
 | 34 => v = .pointer (some ⟨C,2,none⟩)
 | 35 => v = .int .i64 q2
 | 36 => v = .pointer (some ⟨C,3,none⟩)
 | 37 => v = .int .i64 q3
 | 38 => Ints w v [q2,q3]
 | 39 => Asks w v (wchk 0 10000 16 [q2,q3])
 | 40 => v = .pointer (some ⟨C,4,none⟩)
 | 41 => v = .pointer (some ⟨C,4,none⟩)
 | 42 => v = .int .i64 q4
 | 43 => v = .pointer (some ⟨C,4,none⟩)
 | 44 => v = .pointer (some ⟨C,6,none⟩)
 | 45 => v = .int .i64 q6
 | 46 => Ints w v [q4,q6]
 | 47 => Asks w v (wchk 0 100 16 [q4,q6])
 | 48 => v = .pointer (some ⟨C,4,none⟩)
 | 49 => v = .pointer (some ⟨C,5,none⟩)
 | 50 => v = .int .i64 q5
 | 51 => Ints w v [q5]
 | 52 => Asks w v (wchk 1 100 16 [q5])
 | 53 => v = .int .i64 rates
 | 54 => v = .pointer (some ⟨B,18,none⟩)
 | 55 => v = .int .i64 rate
 | 56 => Ints w v [rate]
 | 57 => Asks w v (wchk 0 rates 15 [rate])
 | 58 => askLaw (askZ mi ab de ti q0 q1 q2 q3 q4 q5 q6 rate rates m p x) w v
 | 59 => v = .int .i64 (((askZ mi ab de ti q0 q1 q2 q3 q4 q5 q6 rate rates m p x).find? (· != 0)).getD 0)
 | _ => True
theorem ckI_ext (B C : Nat) (mi ab de ti q0 q1 q2 q3 q4 q5 q6 rate rates m p x : Int) (t : Nat) (w w' : World) (v : Value) (e : Ext w w') (h : ckI B C mi ab de ti q0 q1 q2 q3 q4 q5 q6 rate rates m p x t w v) : ckI B C mi ab de ti q0 q1 q2 q3 q4 q5 q6 rate rates m p x t w' v := by
 unfold ckI at *;split at h <;> first | exact h | exact Sl.ext h e | exact Asks.ext h e | skip
 obtain ⟨a,c,h1,h2⟩ := h;refine ⟨a,c,h1,fun i hi => ?_⟩;obtain ⟨b,off,u,k1,k2,k3,k4⟩ := h2 i hi;exact ⟨b,off,u,k1,Nat.lt_of_lt_of_le k2 e.size,(e.cell (p := ⟨b,off + i,none⟩) k2).trans k3,k4.ext e⟩
theorem ints_new (w : World) (xs : List Int) (t : TypeId) (hl : xs.length <= 9223372036854775807) : Ints (w.alloc (.cells (xs.flatMap encI).toArray t)) (.slice (some ⟨w.heap.size,0,none⟩) xs.length xs.length) xs := by
 refine Sl.of_own (enc := encI) (size := 1) (fun _ => rfl) (base := 0) (e := t) ⟨by simp [length_flatMap_enc (enc := encI) (size := 1) (fun _ => rfl)],.inr ⟨w.heap.size,xs.length,_,rfl,Nat.zero_le _,heap_alloc_new w _,Nat.le_refl _,by unfold maxLen; exact hl,by simp [length_flatMap_enc (enc := encI) (size := 1) (fun _ => rfl)],by rw [Nat.mul_one]; exact List.take_of_length_le (by simp [length_flatMap_enc (enc := encI) (size := 1) (fun _ => rfl)])⟩⟩ hl
theorem askg_cons (z : Int) (Z : List Int) : (((z :: Z).find? (· != 0)).getD 0) = if z ≠ 0 then z else ((Z.find? (· != 0)).getD 0) := by
 by_cases h : z = 0
 ·subst h; simp
 ·rw [if_pos h,List.find?_cons,(by simpa using h : (z != 0) = true)]; rfl
theorem wchk_if (lo hi z : Int) (L : List Int) (R : Int) (hz : z ≠ 0) : (if wchk lo hi z L ≠ 0 then wchk lo hi z L else R) = if L.any (outB lo hi) = true then z else R := by
 unfold wchk;by_cases h : L.any (outB lo hi) = true
 ·rw [if_pos h,if_pos hz,if_pos h]
 ·rw [if_neg h,if_neg (by simp),if_neg h]
theorem rchk_ask (r : RuleD) (rates : Int) : rchk r rates = ((askZ r.mi r.ab r.de r.ti r.q0 r.q1 r.q2 r.q3 r.q4 r.q5 r.q6 r.rate rates (mchk (bl r.path) r.H) (Sp.check r.P) (wrchk r.pre r.S r.D)).find? (· != 0)).getD 0 := by
 have e16 : (16 : Int) ≠ 0 := by omega
 have e13 : (13 : Int) ≠ 0 := by omega
 have e15 : (15 : Int) ≠ 0 := by omega
 unfold askZ rchk;simp only [askg_cons,wchk_if _ _ _ _ _ e16,wchk_if _ _ _ _ _ e13,wchk_if _ _ _ _ _ e15,List.find?_nil,Option.getD_none,List.any_cons,List.any_nil,Bool.or_false];unfold injB polB;generalize mchk (bl r.path) r.H = m;generalize Sp.check r.P = p;generalize wrchk r.pre r.S r.D = x;generalize outB 0 10 r.mi = b0;generalize outB 0 10000 r.ab = b1;generalize outB 0 10000 r.de = b2;generalize outB 0 10000 r.ti = b3;generalize outB 1 10000 r.q0 = b4;generalize outB 1 8 r.q1 = b5;generalize outB 0 10000 r.q2 = b6;generalize outB 0 10000 r.q3 = b7;generalize outB 0 100 r.q4 = b8;generalize outB 1 100 r.q5 = b9;generalize outB 0 100 r.q6 = b10;generalize outB 0 rates r.rate = b11;by_cases hm : m ≠ 0
 ·simp only [if_pos hm]
 simp only [if_neg hm];by_cases hp : p ≠ 0
 ·simp only [if_pos hp]
 simp only [if_neg hp];cases b0
 rotate_left
 ·rfl
 simp only [Bool.false_eq_true,if_false];rw [<- Bool.or_assoc];generalize (b1 || b2 || b3) = bi;cases bi
 rotate_left
 ·rfl
 simp only [Bool.false_eq_true,if_false];by_cases hx : x ≠ 0
 ·simp only [if_pos hx]
 simp only [if_neg hx];cases b4
 rotate_left
 ·rfl
 cases b5
 rotate_left
 ·rfl
 cases b6
 rotate_left
 ·cases b7 <;> rfl
 cases b7
 rotate_left
 ·rfl
 cases b8
 rotate_left
 ·cases b9 <;> cases b10 <;> rfl
 cases b10
 rotate_left
 ·cases b9 <;> rfl
 cases b9
 rotate_left
 ·rfl
 cases b11 <;> rfl
theorem frame60 (x : Nat -> Value) : frameOf 60 x = #[x 0,x 1,x 2,x 3,x 4,x 5,x 6,x 7,x 8,x 9,x 10,x 11,x 12,x 13,x 14,x 15,x 16,x 17,x 18,x 19,x 20,x 21,x 22,x 23,x 24,x 25,x 26,x 27,x 28,x 29,x 30,x 31,x 32,x 33,x 34,x 35,x 36,x 37,x 38,x 39,x 40,x 41,x 42,x 43,x 44,x 45,x 46,x 47,x 48,x 49,x 50,x 51,x 52,x 53,x 54,x 55,x 56,x 57,x 58,x 59] := rfl
theorem hrchk_any (r : RuleD) (rates : Int) (w : World) (hok : RuleOk w r) (hf : RuleFit r) (hm : MaxV w) :
  Calls Tryz.prog 42 #[r.val,.int .i64 rates] w fun e w' => e = .returned (.int .i64 (rchk r rates)) /\ Ext w w' := by
 have hok0 := hide hok;have hf0 := hide hf;have hr0 : ∃ r0,r0 = r := ⟨r,rfl⟩;obtain ⟨r0,hr0⟩ := hr0;have HR0 := hide hr0;clear hr0;obtain ⟨path,ex,hv,H,pv,P,mi,ab,de,ti,pre,sv,S,dv,D,q0,q1,q2,q3,q4,q5,q6,rate⟩ := r;obtain ⟨hH,hP,hS,hD⟩ := hok;simp only [RuleD.val] at *;obtain ⟨_,a1,c1,rfl⟩ := hH.shape;obtain ⟨_,a2,c2,rfl⟩ := hP.shape;obtain ⟨_,a3,c3,rfl⟩ := hS.shape;obtain ⟨_,a4,c4,rfl⟩ := hD.shape;clear hH hP hS hD hf
 go_enter Tryz.func42,Tryz.ntmps42
 go_upto_region 2 with (fail)
 generalize hW : World.alloc (World.alloc w (.cells #[.string path,.bool ex,.slice a1 H.length c1,.slice a2 P.length c2,.int .i64 mi,.int .i64 ab,.int .i64 de,.int .i64 ti,.string pre,.slice a3 S.length c3,.slice a4 D.length c4,.int .i64 q0,.int .i64 q1,.int .i64 q2,.int .i64 q3,.int .i64 q4,.int .i64 q5,.int .i64 q6,.int .i64 rate] 69)) (.cells #[.int .i64 q0,.int .i64 q1,.int .i64 q2,.int .i64 q3,.int .i64 q4,.int .i64 q5,.int .i64 q6] 67) = W
 have hcb : ∀ X,Ext W X -> ∀ j u,([.string path,.bool ex,.slice a1 H.length c1,.slice a2 P.length c2,.int .i64 mi,.int .i64 ab,.int .i64 de,.int .i64 ti,.string pre,.slice a3 S.length c3,.slice a4 D.length c4,.int .i64 q0,.int .i64 q1,.int .i64 q2,.int .i64 q3,.int .i64 q4,.int .i64 q5,.int .i64 q6,.int .i64 rate] : List Value)[j]? = some u -> X.cell? ⟨w.heap.size,j,none⟩ = some u := fun X hX j u hu => by
  subst hW;rw [hX.cell (p := ⟨w.heap.size,j,none⟩) (by simp; omega)];have h1 := cells_new w [.string path,.bool ex,.slice a1 H.length c1,.slice a2 P.length c2,.int .i64 mi,.int .i64 ab,.int .i64 de,.int .i64 ti,.string pre,.slice a3 S.length c3,.slice a4 D.length c4,.int .i64 q0,.int .i64 q1,.int .i64 q2,.int .i64 q3,.int .i64 q4,.int .i64 q5,.int .i64 q6,.int .i64 rate] 69 j u hu;rw [add_cell] at h1;have h2 := ((Below.refl _ (w.alloc (.cells #[.string path,.bool ex,.slice a1 H.length c1,.slice a2 P.length c2,.int .i64 mi,.int .i64 ab,.int .i64 de,.int .i64 ti,.string pre,.slice a3 S.length c3,.slice a4 D.length c4,.int .i64 q0,.int .i64 q1,.int .i64 q2,.int .i64 q3,.int .i64 q4,.int .i64 q5,.int .i64 q6,.int .i64 rate] 69))).alloc (Nat.le_refl _) (.cells #[.int .i64 q0,.int .i64 q1,.int .i64 q2,.int .i64 q3,.int .i64 q4,.int .i64 q5,.int .i64 q6] 67)).cell (p := ⟨w.heap.size,j,none⟩) (by simp);exact h2.trans h1
 have hcc : ∀ X,Ext W X -> ∀ j u,([.int .i64 q0,.int .i64 q1,.int .i64 q2,.int .i64 q3,.int .i64 q4,.int .i64 q5,.int .i64 q6] : List Value)[j]? = some u -> X.cell? ⟨w.heap.size + 1,j,none⟩ = some u := fun X hX j u hu => by
  subst hW;rw [hX.cell (p := ⟨w.heap.size + 1,j,none⟩) (by simp)];have h1 := cells_new (w.alloc (.cells #[.string path,.bool ex,.slice a1 H.length c1,.slice a2 P.length c2,.int .i64 mi,.int .i64 ab,.int .i64 de,.int .i64 ti,.string pre,.slice a3 S.length c3,.slice a4 D.length c4,.int .i64 q0,.int .i64 q1,.int .i64 q2,.int .i64 q3,.int .i64 q4,.int .i64 q5,.int .i64 q6,.int .i64 rate] 69)) [.int .i64 q0,.int .i64 q1,.int .i64 q2,.int .i64 q3,.int .i64 q4,.int .i64 q5,.int .i64 q6] 67 j u hu;rw [add_cell] at h1;simpa using h1
 have hE0 : Ext w W := by
  subst hW;exact za.alloc (by simp) _
 have HCB := hide hcb;have HCC := hide hcc;have HE0 := hide hE0;clear hcb hcc hE0;obtain ⟨m,hmm⟩ : ∃ m,mchk (bl path) H = m := ⟨_,rfl⟩;obtain ⟨p,hpp⟩ : ∃ m,Sp.check P = m := ⟨_,rfl⟩;obtain ⟨x,hxx⟩ : ∃ m,wrchk pre S D = m := ⟨_,rfl⟩;have hce : ∀ Y,Ext W Y -> CellR Y w.heap.size (⟨path,ex,.slice a1 H.length c1,H,.slice a2 P.length c2,P,mi,ab,de,ti,pre,.slice a3 S.length c3,S,.slice a4 D.length c4,D,q0,q1,q2,q3,q4,q5,q6,rate⟩ : RuleD) := fun Y hY => ⟨by have := HE0.out.size; have := hY.size; have h3 : w.heap.size + 1 < W.heap.size := (by subst hW; simp); omega,HCB.out Y hY⟩
 have hmk : ∀ X,Ext W X -> Asks X (.func (.func 79) #[] #[.pointer (some ⟨w.heap.size,0,none⟩)]) m /\ Asks X (.func (.func 81) #[] #[.pointer (some ⟨w.heap.size,0,none⟩)]) p /\ Asks X (.func (.func 84) #[] #[.pointer (some ⟨w.heap.size,0,none⟩)]) x := fun X hX => by
  refine ⟨⟨_,_,rfl,fun w => by kernel_rfl,fun Y hY => ?_⟩,⟨_,_,rfl,fun w => by kernel_rfl,fun Y hY => ?_⟩,⟨_,_,rfl,fun w => by kernel_rfl,fun Y hY => ?_⟩⟩
  ·rw [<- hmm];exact ck1_any (⟨path,ex,.slice a1 H.length c1,H,.slice a2 P.length c2,P,mi,ab,de,ti,pre,.slice a3 S.length c3,S,.slice a4 D.length c4,D,q0,q1,q2,q3,q4,q5,q6,rate⟩ : RuleD) _ Y (hce Y (Ext.trans hX hY)) (hok0.out.ext (HE0.out.trans (Ext.trans hX hY))) hf0.out (hm.ext (HE0.out.trans (Ext.trans hX hY)))
  ·rw [<- hpp];exact ck2_any (⟨path,ex,.slice a1 H.length c1,H,.slice a2 P.length c2,P,mi,ab,de,ti,pre,.slice a3 S.length c3,S,.slice a4 D.length c4,D,q0,q1,q2,q3,q4,q5,q6,rate⟩ : RuleD) _ Y (hce Y (Ext.trans hX hY)) (hok0.out.ext (HE0.out.trans (Ext.trans hX hY))) hf0.out
  ·rw [<- hxx];exact ck3_any (⟨path,ex,.slice a1 H.length c1,H,.slice a2 P.length c2,P,mi,ab,de,ti,pre,.slice a3 S.length c3,S,.slice a4 D.length c4,D,q0,q1,q2,q3,q4,q5,q6,rate⟩ : RuleD) _ Y (hce Y (Ext.trans hX hY)) (hok0.out.ext (HE0.out.trans (Ext.trans hX hY))) hf0.out (hm.ext (HE0.out.trans (Ext.trans hX hY)))
 have HMK := hide hmk;clear hmk hce hW;have HRC := hide (show rchk (⟨path,ex,.slice a1 H.length c1,H,.slice a2 P.length c2,P,mi,ab,de,ti,pre,.slice a3 S.length c3,S,.slice a4 D.length c4,D,q0,q1,q2,q3,q4,q5,q6,rate⟩ : RuleD) rates = ((askZ mi ab de ti q0 q1 q2 q3 q4 q5 q6 rate rates m p x).find? (· != 0)).getD 0 by rw [<- hmm,<- hpp,<- hxx]; exact rchk_ask (⟨path,ex,.slice a1 H.length c1,H,.slice a2 P.length c2,P,mi,ab,de,ti,pre,.slice a3 S.length c3,S,.slice a4 D.length c4,D,q0,q1,q2,q3,q4,q5,q6,rate⟩ : RuleD) rates);clear hmm hpp hxx;refine wp_region_rg 60 (ckI w.heap.size (w.heap.size + 1) mi ab de ti q0 q1 q2 q3 q4 q5 q6 rate rates m p x) (by kernel_rfl) rfl (by kernel_rfl) (by kernel_rfl) (fun t w' w'' v e h => ckI_ext _ _ _ _ _ _ _ _ _ _ _ _ _ _ _ _ _ _ t w' w'' v e h) ?_ ?_ ?_
 ·intro t ht hno;have hi : t = 0 \/ t = 1 \/ t = 2 \/ t = 3 \/ t = 4 \/ t = 5 \/ t = 6 \/ t = 7 \/ t = 8 \/ t = 9 \/ t = 10 \/ t = 11 \/ t = 12 \/ t = 13 \/ t = 14 \/ t = 15 \/ t = 16 \/ t = 17 \/ t = 18 \/ t = 19 \/ t = 20 \/ t = 21 \/ t = 22 \/ t = 23 \/ t = 24 \/ t = 25 \/ t = 26 \/ t = 27 \/ t = 28 \/ t = 29 \/ t = 30 \/ t = 31 \/ t = 32 \/ t = 33 \/ t = 34 \/ t = 35 \/ t = 36 \/ t = 37 \/ t = 38 \/ t = 39 \/ t = 40 \/ t = 41 \/ t = 42 \/ t = 43 \/ t = 44 \/ t = 45 \/ t = 46 \/ t = 47 \/ t = 48 \/ t = 49 \/ t = 50 \/ t = 51 \/ t = 52 \/ t = 53 \/ t = 54 \/ t = 55 \/ t = 56 \/ t = 57 \/ t = 58 \/ t = 59 := by omega
  rcases hi with rfl | rfl | rfl | rfl | rfl | rfl | rfl | rfl | rfl | rfl | rfl | rfl | rfl | rfl | rfl | rfl | rfl | rfl | rfl | rfl | rfl | rfl | rfl | rfl | rfl | rfl | rfl | rfl | rfl | rfl | rfl | rfl | rfl | rfl | rfl | rfl | rfl | rfl | rfl | rfl | rfl | rfl | rfl | rfl | rfl | rfl | rfl | rfl | rfl | rfl | rfl | rfl | rfl | rfl | rfl | rfl | rfl | rfl | rfl | rfl
  all_goals first | exact rfl | exact True.intro | exact zn hno
 ·intro i o ho X w' hE hI K hK;have hin : i < 53 := (zg ho);rcases zo hin with rfl | rfl | rfl | rfl | rfl | rfl | rfl | rfl | rfl | rfl | rfl | rfl | rfl | rfl | rfl | rfl | rfl | rfl | rfl | rfl | rfl | rfl | rfl | rfl | rfl | rfl | rfl | rfl | rfl | rfl | rfl | rfl | rfl | rfl | rfl | rfl | rfl | rfl | rfl | rfl | rfl | rfl | rfl | rfl | rfl | rfl | rfl | rfl | rfl | rfl | rfl | rfl | rfl
  all_goals first | (exact absurd hmi (by decide)) | (obtain rfl := Option.some.inj ho; unfold wpOp; simp only [ho]; rw [if_pos (by rfl)]; left; rw [frame60])
  ·have e2 : X 2 = _ := zk1 (hI 2);go_simp;refine metK (hK.out (.func (.func 79) #[] #[.pointer (some ⟨w.heap.size,0,none⟩)]) _ zb (fun d hd => by cases hd; exact (HMK.out _ hE).1)) ?_;simp [frame60,Act.put, *]
  ·have e2 : X 2 = _ := zk1 (hI 2);go_simp;refine metK (hK.out (.func (.func 81) #[] #[.pointer (some ⟨w.heap.size,0,none⟩)]) _ zb (fun d hd => by cases hd; exact (HMK.out _ hE).2.1)) ?_;simp [frame60,Act.put, *]
  ·have e2 : X 2 = _ := zk1 (hI 2);go_simp;refine zm1 hK (.pointer (some ⟨w.heap.size,4,none⟩)) ?_;simp [frame60,Act.put, *]
  ·have e10 : X 10 = _ := zk1 (hI 10);have c := HCB.out _ hE 4 _ rfl;go_simp;refine zm1 hK (.int .i64 mi) ?_;simp [frame60,Act.put, *]
  ·have e11 : X 11 = _ := zk1 (hI 11);go_simp;refine metK (hK.out (.slice (some ⟨w'.heap.size,0,none⟩) 1 1) _ za (fun d hd => by cases hd; exact ints_new w' [mi] 3 (by simp))) ?_;simp [frame60,Act.put, *]
  ·have e12 : Ints w' (X 12) [mi] := zk1 (hI 12);have E12 := hide e12;clear e12;go_simp;refine (within_any [mi] 0 10 13 _ w' E12.out).mono ?_;rintro e w9 ⟨u,rfl,hA,E9⟩;refine metK (hK.out u _ E9 (fun d hd => by cases hd; exact hA)) ?_;simp [frame60,Act.put, *]
  ·have e2 : X 2 = _ := zk1 (hI 2);go_simp;refine zm1 hK (.pointer (some ⟨w.heap.size,5,none⟩)) ?_;simp [frame60,Act.put, *]
  ·have e14 : X 14 = _ := zk1 (hI 14);go_simp;refine zm1 hK (.pointer (some ⟨w.heap.size,5,none⟩)) ?_;simp [frame60,Act.put, *]
  ·have e15 : X 15 = _ := zk1 (hI 15);have c := HCB.out _ hE 5 _ rfl;go_simp;refine zm1 hK (.int .i64 ab) ?_;simp [frame60,Act.put, *]
  ·have e2 : X 2 = _ := zk1 (hI 2);go_simp;refine zm1 hK (.pointer (some ⟨w.heap.size,5,none⟩)) ?_;simp [frame60,Act.put, *]
  ·have e17 : X 17 = _ := zk1 (hI 17);go_simp;refine zm1 hK (.pointer (some ⟨w.heap.size,6,none⟩)) ?_;simp [frame60,Act.put, *]
  ·have e18 : X 18 = _ := zk1 (hI 18);have c := HCB.out _ hE 6 _ rfl;go_simp;refine zm1 hK (.int .i64 de) ?_;simp [frame60,Act.put, *]
  ·have e2 : X 2 = _ := zk1 (hI 2);go_simp;refine zm1 hK (.pointer (some ⟨w.heap.size,5,none⟩)) ?_;simp [frame60,Act.put, *]
  ·have e20 : X 20 = _ := zk1 (hI 20);go_simp;refine zm1 hK (.pointer (some ⟨w.heap.size,7,none⟩)) ?_;simp [frame60,Act.put, *]
  ·have e21 : X 21 = _ := zk1 (hI 21);have c := HCB.out _ hE 7 _ rfl;go_simp;refine zm1 hK (.int .i64 ti) ?_;simp [frame60,Act.put, *]
  ·have e16 : X 16 = _ := zk1 (hI 16);have e19 : X 19 = _ := zk1 (hI 19);have e22 : X 22 = _ := zk1 (hI 22);go_simp;refine metK (hK.out (.slice (some ⟨w'.heap.size,0,none⟩) 3 3) _ za (fun d hd => by cases hd; exact ints_new w' [ab,de,ti] 3 (by simp))) ?_;simp [frame60,Act.put, *]
  ·have e23 : Ints w' (X 23) [ab,de,ti] := zk1 (hI 23);have E23 := hide e23;clear e23;go_simp;refine (within_any [ab,de,ti] 0 10000 16 _ w' E23.out).mono ?_;rintro e w9 ⟨u,rfl,hA,E9⟩;refine metK (hK.out u _ E9 (fun d hd => by cases hd; exact hA)) ?_;simp [frame60,Act.put, *]
  ·have e2 : X 2 = _ := zk1 (hI 2);go_simp;refine metK (hK.out (.func (.func 84) #[] #[.pointer (some ⟨w.heap.size,0,none⟩)]) _ zb (fun d hd => by cases hd; exact (HMK.out _ hE).2.2)) ?_;simp [frame60,Act.put, *]
  ·have e5 : X 5 = _ := zk1 (hI 5);go_simp;refine zm1 hK (.pointer (some ⟨w.heap.size + 1,0,none⟩)) ?_;simp [frame60,Act.put, *]
  ·have e26 : X 26 = _ := zk1 (hI 26);have c := HCC.out _ hE 0 _ rfl;go_simp;refine zm1 hK (.int .i64 q0) ?_;simp [frame60,Act.put, *]
  ·have e27 : X 27 = _ := zk1 (hI 27);go_simp;refine metK (hK.out (.slice (some ⟨w'.heap.size,0,none⟩) 1 1) _ za (fun d hd => by cases hd; exact ints_new w' [q0] 3 (by simp))) ?_;simp [frame60,Act.put, *]
  ·have e28 : Ints w' (X 28) [q0] := zk1 (hI 28);have E28 := hide e28;clear e28;go_simp;refine (within_any [q0] 1 10000 16 _ w' E28.out).mono ?_;rintro e w9 ⟨u,rfl,hA,E9⟩;refine metK (hK.out u _ E9 (fun d hd => by cases hd; exact hA)) ?_;simp [frame60,Act.put, *]
  ·have e5 : X 5 = _ := zk1 (hI 5);go_simp;refine zm1 hK (.pointer (some ⟨w.heap.size + 1,1,none⟩)) ?_;simp [frame60,Act.put, *]
  ·have e30 : X 30 = _ := zk1 (hI 30);have c := HCC.out _ hE 1 _ rfl;go_simp;refine zm1 hK (.int .i64 q1) ?_;simp [frame60,Act.put, *]
  ·have e31 : X 31 = _ := zk1 (hI 31);go_simp;refine metK (hK.out (.slice (some ⟨w'.heap.size,0,none⟩) 1 1) _ za (fun d hd => by cases hd; exact ints_new w' [q1] 3 (by simp))) ?_;simp [frame60,Act.put, *]
  ·have e32 : Ints w' (X 32) [q1] := zk1 (hI 32);have E32 := hide e32;clear e32;go_simp;refine (within_any [q1] 1 8 16 _ w' E32.out).mono ?_;rintro e w9 ⟨u,rfl,hA,E9⟩;refine metK (hK.out u _ E9 (fun d hd => by cases hd; exact hA)) ?_;simp [frame60,Act.put, *]
  ·have e5 : X 5 = _ := zk1 (hI 5);go_simp;refine zm1 hK (.pointer (some ⟨w.heap.size + 1,2,none⟩)) ?_;simp [frame60,Act.put, *]
  ·have e34 : X 34 = _ := zk1 (hI 34);have c := HCC.out _ hE 2 _ rfl;go_simp;refine zm1 hK (.int .i64 q2) ?_;simp [frame60,Act.put, *]
  ·have e5 : X 5 = _ := zk1 (hI 5);go_simp;refine zm1 hK (.pointer (some ⟨w.heap.size + 1,3,none⟩)) ?_;simp [frame60,Act.put, *]
  ·have e36 : X 36 = _ := zk1 (hI 36);have c := HCC.out _ hE 3 _ rfl;go_simp;refine zm1 hK (.int .i64 q3) ?_;simp [frame60,Act.put, *]
  ·have e35 : X 35 = _ := zk1 (hI 35);have e37 : X 37 = _ := zk1 (hI 37);go_simp;refine metK (hK.out (.slice (some ⟨w'.heap.size,0,none⟩) 2 2) _ za (fun d hd => by cases hd; exact ints_new w' [q2,q3] 3 (by simp))) ?_;simp [frame60,Act.put, *]
  ·have e38 : Ints w' (X 38) [q2,q3] := zk1 (hI 38);have E38 := hide e38;clear e38;go_simp;refine (within_any [q2,q3] 0 10000 16 _ w' E38.out).mono ?_;rintro e w9 ⟨u,rfl,hA,E9⟩;refine metK (hK.out u _ E9 (fun d hd => by cases hd; exact hA)) ?_;simp [frame60,Act.put, *]
  ·have e5 : X 5 = _ := zk1 (hI 5);go_simp;refine zm1 hK (.pointer (some ⟨w.heap.size + 1,4,none⟩)) ?_;simp [frame60,Act.put, *]
  ·have e40 : X 40 = _ := zk1 (hI 40);go_simp;refine zm1 hK (.pointer (some ⟨w.heap.size + 1,4,none⟩)) ?_;simp [frame60,Act.put, *]
  ·have e41 : X 41 = _ := zk1 (hI 41);have c := HCC.out _ hE 4 _ rfl;go_simp;refine zm1 hK (.int .i64 q4) ?_;simp [frame60,Act.put, *]
  ·have e5 : X 5 = _ := zk1 (hI 5);go_simp;refine zm1 hK (.pointer (some ⟨w.heap.size + 1,4,none⟩)) ?_;simp [frame60,Act.put, *]
  ·have e43 : X 43 = _ := zk1 (hI 43);go_simp;refine zm1 hK (.pointer (some ⟨w.heap.size + 1,6,none⟩)) ?_;simp [frame60,Act.put, *]
  ·have e44 : X 44 = _ := zk1 (hI 44);have c := HCC.out _ hE 6 _ rfl;go_simp;refine zm1 hK (.int .i64 q6) ?_;simp [frame60,Act.put, *]
  ·have e42 : X 42 = _ := zk1 (hI 42);have e45 : X 45 = _ := zk1 (hI 45);go_simp;refine metK (hK.out (.slice (some ⟨w'.heap.size,0,none⟩) 2 2) _ za (fun d hd => by cases hd; exact ints_new w' [q4,q6] 3 (by simp))) ?_;simp [frame60,Act.put, *]
  ·have e46 : Ints w' (X 46) [q4,q6] := zk1 (hI 46);have E46 := hide e46;clear e46;go_simp;refine (within_any [q4,q6] 0 100 16 _ w' E46.out).mono ?_;rintro e w9 ⟨u,rfl,hA,E9⟩;refine metK (hK.out u _ E9 (fun d hd => by cases hd; exact hA)) ?_;simp [frame60,Act.put, *]
  ·have e5 : X 5 = _ := zk1 (hI 5);go_simp;refine zm1 hK (.pointer (some ⟨w.heap.size + 1,4,none⟩)) ?_;simp [frame60,Act.put, *]
  ·have e48 : X 48 = _ := zk1 (hI 48);go_simp;refine zm1 hK (.pointer (some ⟨w.heap.size + 1,5,none⟩)) ?_;simp [frame60,Act.put, *]
  ·have e49 : X 49 = _ := zk1 (hI 49);have c := HCC.out _ hE 5 _ rfl;go_simp;refine zm1 hK (.int .i64 q5) ?_;simp [frame60,Act.put, *]
  ·have e50 : X 50 = _ := zk1 (hI 50);go_simp;refine metK (hK.out (.slice (some ⟨w'.heap.size,0,none⟩) 1 1) _ za (fun d hd => by cases hd; exact ints_new w' [q5] 3 (by simp))) ?_;simp [frame60,Act.put, *]
  ·have e51 : Ints w' (X 51) [q5] := zk1 (hI 51);have E51 := hide e51;clear e51;go_simp;refine (within_any [q5] 1 100 16 _ w' E51.out).mono ?_;rintro e w9 ⟨u,rfl,hA,E9⟩;refine metK (hK.out u _ E9 (fun d hd => by cases hd; exact hA)) ?_;simp [frame60,Act.put, *]
  ·have e1 : X 1 = _ := zk1 (hI 1);go_simp;refine zm1 hK (.int .i64 rates) ?_;simp [frame60,Act.put, *]
  ·have e2 : X 2 = _ := zk1 (hI 2);go_simp;refine zm1 hK (.pointer (some ⟨w.heap.size,18,none⟩)) ?_;simp [frame60,Act.put, *]
  ·have e54 : X 54 = _ := zk1 (hI 54);have c := HCB.out _ hE 18 _ rfl;go_simp;refine zm1 hK (.int .i64 rate) ?_;simp [frame60,Act.put, *]
  ·have e55 : X 55 = _ := zk1 (hI 55);go_simp;refine metK (hK.out (.slice (some ⟨w'.heap.size,0,none⟩) 1 1) _ za (fun d hd => by cases hd; exact ints_new w' [rate] 3 (by simp))) ?_;simp [frame60,Act.put, *]
  ·have e53 : X 53 = _ := zk1 (hI 53);have e56 : Ints w' (X 56) [rate] := zk1 (hI 56);have E56 := hide e56;clear e56;go_simp;refine (within_any [rate] 0 rates 15 _ w' E56.out).mono ?_;rintro e w9 ⟨u,rfl,hA,E9⟩;refine metK (hK.out u _ E9 (fun d hd => by cases hd; exact hA)) ?_;simp [frame60,Act.put, *]
  ·obtain ⟨k8,c8,e8,y,z⟩ := (hI 8 (by kernel_rfl) : Asks w' (X 8) (m));have A8 := hide (⟨k8,c8,rfl,y,z⟩ : Asks w' (.func (.func k8) #[] c8) (m));clear y z;obtain ⟨k9,c9,e9,y,z⟩ := (hI 9 (by kernel_rfl) : Asks w' (X 9) (p));have A9 := hide (⟨k9,c9,rfl,y,z⟩ : Asks w' (.func (.func k9) #[] c9) (p));clear y z;obtain ⟨k13,c13,e13,y,z⟩ := (hI 13 (by kernel_rfl) : Asks w' (X 13) (wchk 0 10 13 [mi]));have A13 := hide (⟨k13,c13,rfl,y,z⟩ : Asks w' (.func (.func k13) #[] c13) (wchk 0 10 13 [mi]));clear y z;obtain ⟨k24,c24,e24,y,z⟩ := (hI 24 (by kernel_rfl) : Asks w' (X 24) (wchk 0 10000 16 [ab,de,ti]));have A24 := hide (⟨k24,c24,rfl,y,z⟩ : Asks w' (.func (.func k24) #[] c24) (wchk 0 10000 16 [ab,de,ti]));clear y z;obtain ⟨k25,c25,e25,y,z⟩ := (hI 25 (by kernel_rfl) : Asks w' (X 25) (x));have A25 := hide (⟨k25,c25,rfl,y,z⟩ : Asks w' (.func (.func k25) #[] c25) (x));clear y z;obtain ⟨k29,c29,e29,y,z⟩ := (hI 29 (by kernel_rfl) : Asks w' (X 29) (wchk 1 10000 16 [q0]));have A29 := hide (⟨k29,c29,rfl,y,z⟩ : Asks w' (.func (.func k29) #[] c29) (wchk 1 10000 16 [q0]));clear y z;obtain ⟨k33,c33,e33,y,z⟩ := (hI 33 (by kernel_rfl) : Asks w' (X 33) (wchk 1 8 16 [q1]));have A33 := hide (⟨k33,c33,rfl,y,z⟩ : Asks w' (.func (.func k33) #[] c33) (wchk 1 8 16 [q1]));clear y z;obtain ⟨k39,c39,e39,y,z⟩ := (hI 39 (by kernel_rfl) : Asks w' (X 39) (wchk 0 10000 16 [q2,q3]));have A39 := hide (⟨k39,c39,rfl,y,z⟩ : Asks w' (.func (.func k39) #[] c39) (wchk 0 10000 16 [q2,q3]))
   clear y z;obtain ⟨k47,c47,e47,y,z⟩ := (hI 47 (by kernel_rfl) : Asks w' (X 47) (wchk 0 100 16 [q4,q6]));have A47 := hide (⟨k47,c47,rfl,y,z⟩ : Asks w' (.func (.func k47) #[] c47) (wchk 0 100 16 [q4,q6]));clear y z;obtain ⟨k52,c52,e52,y,z⟩ := (hI 52 (by kernel_rfl) : Asks w' (X 52) (wchk 1 100 16 [q5]));have A52 := hide (⟨k52,c52,rfl,y,z⟩ : Asks w' (.func (.func k52) #[] c52) (wchk 1 100 16 [q5]));clear y z;obtain ⟨k57,c57,e57,y,z⟩ := (hI 57 (by kernel_rfl) : Asks w' (X 57) (wchk 0 rates 15 [rate]));have A57 := hide (⟨k57,c57,rfl,y,z⟩ : Asks w' (.func (.func k57) #[] c57) (wchk 0 rates 15 [rate]));clear y z
   have hx : ∀ (T : TypeId) (j : Nat) (u : Value),([.func (.func k8) #[] c8,.func (.func k9) #[] c9,.func (.func k13) #[] c13,.func (.func k24) #[] c24,.func (.func k25) #[] c25,.func (.func k29) #[] c29,.func (.func k33) #[] c33,.func (.func k39) #[] c39,.func (.func k47) #[] c47,.func (.func k52) #[] c52,.func (.func k57) #[] c57] : List Value)[j]? = some u -> (w'.alloc (.cells #[.func (.func k8) #[] c8,.func (.func k9) #[] c9,.func (.func k13) #[] c13,.func (.func k24) #[] c24,.func (.func k25) #[] c25,.func (.func k29) #[] c29,.func (.func k33) #[] c33,.func (.func k39) #[] c39,.func (.func k47) #[] c47,.func (.func k52) #[] c52,.func (.func k57) #[] c57] T)).cell? ⟨w'.heap.size,j,none⟩ = some u := fun T j u hu => by
    have := cells_new w' [.func (.func k8) #[] c8,.func (.func k9) #[] c9,.func (.func k13) #[] c13,.func (.func k24) #[] c24,.func (.func k25) #[] c25,.func (.func k29) #[] c29,.func (.func k33) #[] c33,.func (.func k39) #[] c39,.func (.func k47) #[] c47,.func (.func k52) #[] c52,.func (.func k57) #[] c57] T j u hu;rw [add_cell] at this;exact this
   have HX := hide hx;clear hx
   have hl : ∀ (T : TypeId) (i : Nat) (hi : i < (askZ mi ab de ti q0 q1 q2 q3 q4 q5 q6 rate rates m p x).length),∃ b off u,(some (⟨w'.heap.size,0,none⟩ : Addr)) = some ⟨b,off,none⟩ /\ b < (w'.alloc (.cells #[.func (.func k8) #[] c8,.func (.func k9) #[] c9,.func (.func k13) #[] c13,.func (.func k24) #[] c24,.func (.func k25) #[] c25,.func (.func k29) #[] c29,.func (.func k33) #[] c33,.func (.func k39) #[] c39,.func (.func k47) #[] c47,.func (.func k52) #[] c52,.func (.func k57) #[] c57] T)).heap.size /\ (w'.alloc (.cells #[.func (.func k8) #[] c8,.func (.func k9) #[] c9,.func (.func k13) #[] c13,.func (.func k24) #[] c24,.func (.func k25) #[] c25,.func (.func k29) #[] c29,.func (.func k33) #[] c33,.func (.func k39) #[] c39,.func (.func k47) #[] c47,.func (.func k52) #[] c52,.func (.func k57) #[] c57] T)).cell? ⟨b,off + i,none⟩ = some u /\ Asks (w'.alloc (.cells #[.func (.func k8) #[] c8,.func (.func k9) #[] c9,.func (.func k13) #[] c13,.func (.func k24) #[] c24,.func (.func k25) #[] c25,.func (.func k29) #[] c29,.func (.func k33) #[] c33,.func (.func k39) #[] c39,.func (.func k47) #[] c47,.func (.func k52) #[] c52,.func (.func k57) #[] c57] T)) u (askZ mi ab de ti q0 q1 q2 q3 q4 q5 q6 rate rates m p x)[i] := by
    intro T i hi
    have hj : i = 0 \/ i = 1 \/ i = 2 \/ i = 3 \/ i = 4 \/ i = 5 \/ i = 6 \/ i = 7 \/ i = 8 \/ i = 9 \/ i = 10 := by
     have h : i < 11 := hi;omega
    rcases hj with rfl | rfl | rfl | rfl | rfl | rfl | rfl | rfl | rfl | rfl | rfl
    ·exact ⟨w'.heap.size,0,_,rfl,by simp,by rw [Nat.zero_add]; exact HX.out _ 0 _ rfl,Asks.ext A8.out za⟩
    ·exact ⟨w'.heap.size,0,_,rfl,by simp,by rw [Nat.zero_add]; exact HX.out _ 1 _ rfl,Asks.ext A9.out za⟩
    ·exact ⟨w'.heap.size,0,_,rfl,by simp,by rw [Nat.zero_add]; exact HX.out _ 2 _ rfl,Asks.ext A13.out za⟩
    ·exact ⟨w'.heap.size,0,_,rfl,by simp,by rw [Nat.zero_add]; exact HX.out _ 3 _ rfl,Asks.ext A24.out za⟩
    ·exact ⟨w'.heap.size,0,_,rfl,by simp,by rw [Nat.zero_add]; exact HX.out _ 4 _ rfl,Asks.ext A25.out za⟩
    ·exact ⟨w'.heap.size,0,_,rfl,by simp,by rw [Nat.zero_add]; exact HX.out _ 5 _ rfl,Asks.ext A29.out za⟩
    ·exact ⟨w'.heap.size,0,_,rfl,by simp,by rw [Nat.zero_add]; exact HX.out _ 6 _ rfl,Asks.ext A33.out za⟩
    ·exact ⟨w'.heap.size,0,_,rfl,by simp,by rw [Nat.zero_add]; exact HX.out _ 7 _ rfl,Asks.ext A39.out za⟩
    ·exact ⟨w'.heap.size,0,_,rfl,by simp,by rw [Nat.zero_add]; exact HX.out _ 8 _ rfl,Asks.ext A47.out za⟩
    ·exact ⟨w'.heap.size,0,_,rfl,by simp,by rw [Nat.zero_add]; exact HX.out _ 9 _ rfl,Asks.ext A52.out za⟩
    ·exact ⟨w'.heap.size,0,_,rfl,by simp,by rw [Nat.zero_add]; exact HX.out _ 10 _ rfl,Asks.ext A57.out za⟩
   have HL := hide hl;clear hl;go_simp
   refine metK (hK.out (.slice (some ⟨w'.heap.size,0,none⟩) 11 11) _ za (fun d hd => by
    cases hd
    exact askLaw.mk (HL.out _))) ?_
   simp [frame60,Act.put, *]
  ·obtain ⟨aa,cc,e58,hz⟩ := zk1 (hI 58);have HZ := hide hz;clear hz;go_simp;refine (first_any (askZ mi ab de ti q0 q1 q2 q3 q4 q5 q6 rate rates m p x) aa 11 cc w' rfl (by omega) HZ.out).mono ?_;rintro e w9 ⟨rfl,E9⟩;refine metK (hK.out (.int .i64 (((askZ mi ab de ti q0 q1 q2 q3 q4 q5 q6 rate rates m p x).find? (· != 0)).getD 0)) _ E9 (fun d hd => by cases hd; exact rfl)) ?_;simp [frame60,Act.put, *]
  ·have e59 : X 59 = _ := zk1 (hI 59);go_simp;refine zm1 hK (.int .i64 (((askZ mi ab de ti q0 q1 q2 q3 q4 q5 q6 rate rates m p x).find? (· != 0)).getD 0)) ?_;simp [frame60,Act.put, *]
 ·intro X w' hE hI;have e4 : X 4 = _ := hI 4 (by omega);rw [frame60];go_wp2;go_ret;exact ⟨by rw [HRC.out]; exact (by simp [*]),HE0.out.trans hE⟩
end Go.Proofs.YtoaiakhnnfbkdaaGreatDoor
