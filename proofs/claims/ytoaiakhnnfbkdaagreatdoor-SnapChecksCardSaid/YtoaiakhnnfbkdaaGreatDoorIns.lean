import Derived.Sort.WalkA
import Derived.Test.YtoaiakhnnfbkdaaGreatDoorZr
import Derived.Test.YtoaiakhnnfbkdaaGreatDoorZa
set_option maxRecDepth 100000
set_option maxHeartbeats 32000000
namespace Go.Proofs.YtoaiakhnnfbkdaaGreatDoor
open Go.ChangeShapes Go.WideShapes Go.ChangeAt Go.RowKit Go.Lib Go.Shelf Go.Sort
def RowI (w : World) (blk cap : Nat) (d : Array Int) : Prop := ∃ cs,w.heap[blk]? = some (.cells cs 3 (0,0)) /\ cs.size = cap /\ d.size <= cap /\ ∀ i,i < d.size -> cs[i]? = some (.int .i64 d[i]!)
theorem RowI.cell {w : World} {blk cap : Nat} {d : Array Int} (h : RowI w blk cap d) (i : Nat) (hi : i < d.size) : w.cell? ⟨blk,i,none⟩ = some (.int .i64 d[i]!) := by
 obtain ⟨cs,h1,h2,h3,h4⟩ := h;simp only [World.cell?,h1];exact h4 i hi
theorem RowI.frozen {w : World} {blk cap : Nat} {d : Array Int} (h : RowI w blk cap d) (o : Nat) : w.frozen? ⟨blk,o,none⟩ = false := by
 obtain ⟨cs,h1,h2,h3,h4⟩ := h;simp [World.frozen?,h1]
theorem RowI.lt {w : World} {blk cap : Nat} {d : Array Int} (h : RowI w blk cap d) : blk < w.heap.size := by
 obtain ⟨cs,h1,_⟩ := h;exact (zg h1)
theorem RowI.ext {w w' : World} {blk cap : Nat} {d : Array Int} (h : RowI w blk cap d) (e : Ext w w') : RowI w' blk cap d := by
 have hl := h.lt;obtain ⟨cs,h1,h2⟩ := h;exact ⟨cs,(e.block blk hl).trans h1,h2⟩
theorem RowI.set {w : World} {blk cap : Nat} {d : Array Int} (h : RowI w blk cap d) (i : Nat) (z : Int) : RowI (w.setCell ⟨blk,i,none⟩ (.int .i64 z)) blk cap (d.setIfInBounds i z) := by
 obtain ⟨cs,hb,h2,h3,h4⟩ := h;obtain ⟨hlt,hk⟩ := Array.getElem?_eq_some_iff.1 hb;refine ⟨cs.setIfInBounds i (.int .i64 z), ?_,by simp [h2],by simpa using h3, ?_⟩
 ·show (w.heap.modify blk _)[blk]? = _;rw [Array.getElem?_eq_getElem (by rw [Array.size_modify]; exact hlt),Array.getElem_modify_self,hk];rfl
 ·intro j hj;have hj' : j < d.size := by simpa using hj
  rw [Array.getElem?_setIfInBounds];by_cases hij : i = j
  ·subst hij;rw [if_pos rfl,if_pos (by omega),getElem!_pos _ i (by simpa using hj')];simp
  ·rw [if_neg hij,h4 j hj',getElem!_pos d j hj',getElem!_pos (d.setIfInBounds i z) j (by simpa using hj'),Array.getElem_setIfInBounds_ne _ hij]
theorem RowI.swap {w : World} {blk cap : Nat} {d : Array Int} (h : RowI w blk cap d) (i j : Nat) : RowI ((w.setCell ⟨blk,i,none⟩ (.int .i64 d[j]!)).setCell ⟨blk,j,none⟩ (.int .i64 d[i]!)) blk cap (swp d i j) := (h.set i _).set j _
def CmpOk (w0 : World) (blk N : Nat) (fv : Value) (cf : Int -> Int -> Int) : Prop := ∃ g cb,fv = .func (.func g) #[] cb /\ (∀ args w,(callFunc g args).run Tryz.prog w = .ok (.enter g args) w) /\ ∀ w',Keeps (fun b => b = blk) w0 w' -> ∀ x y : Int,0 <= x -> x < N -> 0 <= y -> y < N ->
 Calls Tryz.prog g (#[.int .i64 x,.int .i64 y] ++ cb) w' fun e w'' => e = .returned (.int .i64 (cf x y)) /\ Ext w' w''
def InR (N : Nat) (d : Array Int) : Prop := ∀ i,i < d.size -> 0 <= d[i]! /\ d[i]! < N
theorem InR.swp {N : Nat} {d : Array Int} (h : InR N d) (i j : Nat) (hi : i < d.size) (hj : j < d.size) : InR N (swp d i j) := by
 intro k hk;rw [swp_size] at hk;rw [swp_get d hi hj k];split
 ·exact h _ hi
 ·split
  ·exact h _ hj
  ·exact h k hk
def PhC (W : World) (z : Int) : List Value -> World -> Prop
 | [],w' => Ext W w'
 | [v],w' => Ext W w' /\ v = .int .i64 z
 | _,_ => False
def PhX (W : World) (blk i j : Nat) (x y : Int) : List Value -> World -> Prop
 | [],w' => Ext W w'
 | [_],w' => ∃ w1,Ext W w1 /\ w' = w1.setCell ⟨blk,i,none⟩ (.int .i64 y)
 | [_,_],w' => ∃ w1,Ext W w1 /\ w' = (w1.setCell ⟨blk,i,none⟩ (.int .i64 y)).setCell ⟨blk,j,none⟩ (.int .i64 x)
 | _,_ => False
theorem frame53 (x : Nat -> Value) : frameOf 53 x = #[x 0,x 1,x 2,x 3,x 4,x 5,x 6,x 7,x 8,x 9,x 10,x 11,x 12,x 13,x 14,x 15,x 16,x 17,x 18,x 19,x 20,x 21,x 22,x 23,x 24,x 25,x 26,x 27,x 28,x 29,x 30,x 31,x 32,x 33,x 34,x 35,x 36,x 37,x 38,x 39,x 40,x 41,x 42,x 43,x 44,x 45,x 46,x 47,x 48,x 49,x 50,x 51,x 52] := rfl
theorem isort_any (a b N blk cap : Nat) (d : Array Int) (fv : Value) (cf : Int -> Int -> Int) (w0 w : World) (hN : InR N d) (hC : CmpOk w0 blk N fv cf) (hR : RowI w blk cap d) (hK0 : Keeps (fun b => b = blk) w0 w) (hab : a <= b) (hb : b <= d.size) (hsz : d.size <= 1000) :
  Calls Tryz.prog 112 #[.slice (some ⟨blk,0,none⟩) d.size cap,.int .i64 a,.int .i64 b,fv] w fun e w' => e = .returned (.tuple #[]) /\ RowI w' blk cap (insertionSort (ltOf cf) d a b) /\ Keeps (fun b => b = blk) w w' := by
 obtain ⟨g,cb,rfl,heg,hcall⟩ := hC;have HCALL := hide hcall;have HK0 := hide hK0;have HR0 := hide hR;have HN := hide hN;have H63 := hide hsz;clear hcall hK0 hR hN
 go_enter Tryz.func112,Tryz.ntmps112
 go_wp2_with fail
 go_loopw [8] (fun vi wr => ∃ (i : Nat) (dk : Array Int),vi = .int .i64 i /\ a < i /\ i <= b + 1 /\ dk.size = d.size /\ InR N dk /\ RowI wr blk cap dk /\ Keeps (fun b => b = blk) w wr /\ Hid (insOuter (ltOf cf) a b i dk = insOuter (ltOf cf) a b (a + 1) d)) (fun i _ => b + 1 - (intOf i).toNat)
 case atStart => exact ⟨a + 1,d,by go_num,by omega,by omega,rfl,HN.out,HR0.out,Keeps.refl _ _,rfl⟩
 case round =>
  obtain ⟨i,dk,rfl,hai,hib,hsk,hir,hri,hki,HO⟩ := hrel;have HIR0 := hide hir;have HRI0 := hide hri;have HKI0 := hide hki;clear hir hri hki;obtain ⟨wo,rfl⟩ : ∃ wo,wo = wr := ⟨_,rfl⟩;by_cases hlt : i < b
  ·have hltz : (i : Int) < (b : Int) := by omega
   go_wp2_with fail
   go_loopw [9] (fun vj wr => ∃ (j : Nat) (dj : Array Int),vj = .int .i64 j /\ a <= j /\ j <= i /\ dj.size = d.size /\ InR N dj /\ RowI wr blk cap dj /\ Keeps (fun b => b = blk) w wr /\ Hid (insInner (ltOf cf) a j dj = insInner (ltOf cf) a i dk)) (fun j _ => (intOf j).toNat)
   case atStart => exact ⟨i,dk,rfl,by omega,Nat.le_refl _,hsk,HIR0.out,HRI0.out,HKI0.out,rfl⟩
   case round =>
    obtain ⟨j,dj,rfl,haj,hji,hsj,hir,hri,hki,HI⟩ := hrel;have HIR := hide hir;have HRI := hide hri;have HKI := hide hki;clear hir hri hki
    have out : (j <= a \/ (ltOf cf) dj[j]! dj[j - 1]! = false) -> Hid (insOuter (ltOf cf) a b (i + 1) dj = insOuter (ltOf cf) a b (a + 1) d) := fun hs => by
     show _ = _;rw [<- HO.out,insOuter_go _ _ _ _ _ hlt,<- HI.out,insInner_stop _ _ _ _ hs]
    have OUT := hide out;clear out;by_cases hja : a < j
    ·obtain ⟨jp,rfl⟩ : ∃ q,j = q + 1 := ⟨j - 1,by omega⟩;have hjaz : (a : Int) < (jp : Int) + 1 := (by omega);have hjz : ((jp : Int) + 1) <= 1000 := (by omega);have hjb : ((jp : Int) + 1) < d.size := (by omega);have hjb0 : (0 : Int) <= (jp : Int) := (by omega);have hjb1 : (jp : Int) < d.size := (by omega);have hjw : IntKind.i64.wrap (jp : Int) = (jp : Int) := IntWalk.i64_in _ (by omega);obtain ⟨x,hx⟩ : ∃ x,dj[jp + 1]! = x := ⟨_,rfl⟩;obtain ⟨y,hy⟩ : ∃ y,dj[jp]! = y := ⟨_,rfl⟩;have HX0 := hide hx;have HY0 := hide hy;clear hx hy
     have hcx : ∀ vs w' z,vs.length <= 0 -> PhC wr z vs w' -> w'.cell? ⟨blk,jp + 1,none⟩ = some (.int .i64 x) := fun vs w' z hn h => by
      rcases vs with _ | ⟨u,vs⟩
      ·rw [<- HX0.out]; exact (HRI.out.ext h).cell (jp + 1) (by omega)
      ·simp at hn
     have hcy : ∀ vs w' z,vs.length <= 0 -> PhC wr z vs w' -> w'.cell? ⟨blk,jp,none⟩ = some (.int .i64 y) := fun vs w' z hn h => by
      rcases vs with _ | ⟨u,vs⟩
      ·rw [<- HY0.out]; exact (HRI.out.ext h).cell jp (by omega)
      ·simp at hn
     obtain ⟨z,hz⟩ : ∃ z,cf x y = z := ⟨_,rfl⟩
     have hcl : ∀ w',Ext wr w' -> Calls Tryz.prog g (#[.int .i64 x,.int .i64 y] ++ cb) w' fun e w'' => e = .returned (.int .i64 z) /\ Ext w' w'' := fun w' h => by
      have h1 := HIR.out (jp + 1) (by omega);have h2 := HIR.out jp (by omega);rw [HX0.out] at h1;rw [HY0.out] at h2;rw [<- hz];exact HCALL.out w' ((HK0.out.trans HKI.out).trans (Keeps.of_ext h)) x y h1.1 h1.2 h2.1 h2.2
     have HCX := hide (fun vs w' => hcx vs w' z);have HCY := hide (fun vs w' => hcy vs w' z);have HCL := hide hcl;clear hcx hcy hcl;by_cases hzn : z < 0
     ·have HLT := hide (show ltOf cf dj[jp + 1]! dj[jp]! = true by unfold ltOf; rw [HX0.out,HY0.out,hz]; exact decide_eq_true hzn);clear hz
      go_upto_region 4 with (fail)
      refine wp_region_ph 53 [14] (PhC wr z) (fun t v => match t with | 0 => v = .slice (some ⟨blk,0,none⟩) d.size cap | 1 => v = .int .i64 a | 2 => v = .int .i64 b | 3 => v = .func (.func g) #[] cb | 4 => v = undef | 5 => v = undef | 6 => v = undef | 7 => v = undef | 8 => v = .int .i64 i | 9 => v = .int .i64 (jp + 1) | 10 => v = .int .i64 a | 11 => v = .int .i64 (a + 1) | 12 => v = .int .i64 i | 13 => v = .int .i64 b | 14 => v = .bool true | 15 => v = u15 | 16 => v = u16 | 17 => v = .int .i64 i | 18 => v = .int .i64 (jp + 1) | 19 => v = .int .i64 a | 20 => v = .bool true | 21 => v = .bool true | 22 => v = .func (.func g) #[] cb | 23 => v = .slice (some ⟨blk,0,none⟩) d.size cap | 24 => v = .int .i64 (jp + 1) | 25 => v = .pointer (some ⟨blk,jp + 1,none⟩) | 26 => v = .int .i64 x | 27 => v = .slice (some ⟨blk,0,none⟩) d.size cap | 28 => v = .int .i64 (jp + 1) | 29 => v = .int .i64 jp | 30 => v = .pointer (some ⟨blk,jp,none⟩) | 31 => v = .int .i64 y | 33 => v = .bool true | 34 => v = .bool true | _ => True) (by kernel_rfl) rfl (by kernel_rfl) (by kernel_rfl) (by kernel_rfl) ?_ ?_ ?_ ?_ ?_
      ·exact zb.drew
      ·intro t ht hno;split <;> first | exact True.intro | exact rfl | exact zn hno
      ·intro i o ho hmi vs X w' hpk hph hX hI K hK;have hin : i < 17 := (zg ho);rcases zo hin with rfl | rfl | rfl | rfl | rfl | rfl | rfl | rfl | rfl | rfl | rfl | rfl | rfl | rfl | rfl | rfl | rfl
       all_goals first | (exact absurd hmi (by decide)) | (obtain rfl := Option.some.inj ho; unfold wpOp; simp only [ho]; rw [if_pos (by rfl)]; left; rw [frame53]) | (obtain rfl := Option.some.inj ho; have e21 : X 21 = _ := zk1 (hI 21); unfold wpOp; simp only [ho]; rw [frame53]; simp only [e21]; rw [if_pos (by rfl)]; left)
       ·have e9 : X 9 = _ := zk1 (hI 9);go_simp;refine zm0 hK (.int .i64 (jp + 1)) ?_;simp [frame53,Act.put, *]
       ·have e1 : X 1 = _ := zk1 (hI 1);go_simp;refine zm0 hK (.int .i64 a) ?_;simp [frame53,Act.put, *]
       ·have e18 : X 18 = _ := zk1 (hI 18);have e19 : X 19 = _ := zk1 (hI 19);go_simp;refine zm0 hK (.bool true) ?_;simp [frame53,Act.put, *]
       ·have e20 : X 20 = _ := zk1 (hI 20);go_simp;refine zm0 hK (.bool true) ?_;simp [frame53,Act.put, *]
       ·have e3 : X 3 = _ := zk1 (hI 3);go_simp;refine zm0 hK (.func (.func g) #[] cb) ?_;simp [frame53,Act.put, *]
       ·have e0 : X 0 = _ := zk1 (hI 0);go_simp;refine zm0 hK (.slice (some ⟨blk,0,none⟩) d.size cap) ?_;simp [frame53,Act.put, *]
       ·have e9 : X 9 = _ := zk1 (hI 9);go_simp;refine zm0 hK (.int .i64 (jp + 1)) ?_;simp [frame53,Act.put, *]
       ·have e23 : X 23 = _ := zk1 (hI 23);have e24 : X 24 = _ := zk1 (hI 24);go_simp;refine zm0 hK (.pointer (some ⟨blk,jp + 1,none⟩)) ?_;simp [frame53,Act.put, *]
       ·have e25 : X 25 = _ := zk1 (hI 25);have c0 := HCX.out vs w' ((hpk 0 (by decide)).2 (by kernel_rfl)) hph;go_simp;refine zm0 hK (.int .i64 x) ?_;simp [frame53,Act.put, *]
       ·have e0 : X 0 = _ := zk1 (hI 0);go_simp;refine zm0 hK (.slice (some ⟨blk,0,none⟩) d.size cap) ?_;simp [frame53,Act.put, *]
       ·have e9 : X 9 = _ := zk1 (hI 9);go_simp;refine zm0 hK (.int .i64 (jp + 1)) ?_;simp [frame53,Act.put, *]
       ·have e28 : X 28 = _ := zk1 (hI 28);go_simp;refine zm0 hK (.int .i64 jp) ?_;simp [frame53,Act.put, *]
       ·have e27 : X 27 = _ := zk1 (hI 27);have e29 : X 29 = _ := zk1 (hI 29);go_simp;refine zm0 hK (.pointer (some ⟨blk,jp,none⟩)) ?_;simp [frame53,Act.put, *]
       ·have e30 : X 30 = _ := zk1 (hI 30);have c0 := HCY.out vs w' ((hpk 0 (by decide)).2 (by kernel_rfl)) hph;go_simp;refine zm0 hK (.int .i64 y) ?_;simp [frame53,Act.put, *]
       ·have hl := (hpk 0 (by decide)).1 (by kernel_rfl);rcases vs with _ | ⟨v,_ | ⟨v2,vs⟩⟩
        ·simp at hl
        ·obtain ⟨hE1,rfl⟩ := hph;have e32 : X 32 = .int .i64 z := hX 0 32 (by simp) (by kernel_rfl);go_simp;refine zm0 hK (.bool true) ?_;simp [frame53,Act.put, *]
        ·exact hph.elim
       ·have e21 : X 21 = _ := zk1 (hI 21);have e33 : X 33 = _ := zk1 (hI 33);go_simp;refine zm0 hK (.bool true) ?_;simp [frame53,Act.put, *]
      ·intro i o ho hmi vs X w' hqi hql hph hX hI K hK;rcases vs with _ | ⟨v0,_⟩
       ·obtain rfl : 14 = i := hqi;obtain rfl := Option.some.inj ho;have e21 : X 21 = _ := zk1 (hI 21);have e22 : X 22 = _ := zk1 (hI 22);have e26 : X 26 = _ := zk1 (hI 26);have e31 : X 31 = _ := zk1 (hI 31);unfold wpOp;simp only [ho];rw [frame53];simp only [e21];rw [if_pos (by rfl)];left;go_simp;refine (HCL.out w' hph).mono ?_;rintro e w9 ⟨rfl,E9⟩;refine metK (hK.out (.int .i64 z) w9 ⟨hph.trans E9,rfl⟩) ?_;simp [frame53,Act.put, *]
       ·simp at hql <;> omega
      ·intro vs X w' hlen hph hX hI;have e0 : X 0 = _ := zk3 (hI 0);have e1 : X 1 = _ := zk3 (hI 1);have e2 : X 2 = _ := zk3 (hI 2);have e3 : X 3 = _ := zk3 (hI 3);have e4 : X 4 = _ := zk3 (hI 4);have e5 : X 5 = _ := zk3 (hI 5);have e6 : X 6 = _ := zk3 (hI 6);have e7 : X 7 = _ := zk3 (hI 7);have e8 : X 8 = _ := zk3 (hI 8);have e9 : X 9 = _ := zk3 (hI 9);have e10 : X 10 = _ := zk3 (hI 10);have e11 : X 11 = _ := zk3 (hI 11);have e12 : X 12 = _ := zk3 (hI 12);have e13 : X 13 = _ := zk3 (hI 13);have e14 : X 14 = _ := zk3 (hI 14);have e15 : X 15 = _ := zk3 (hI 15);have e16 : X 16 = _ := zk3 (hI 16);have e17 : X 17 = _ := zk3 (hI 17);have e18 : X 18 = _ := zk3 (hI 18);have e19 : X 19 = _ := zk3 (hI 19);have e20 : X 20 = _ := zk3 (hI 20);have e21 : X 21 = _ := zk3 (hI 21);have e22 : X 22 = _ := zk3 (hI 22);have e23 : X 23 = _ := zk3 (hI 23);have e24 : X 24 = _ := zk3 (hI 24);have e25 : X 25 = _ := zk3 (hI 25);have e26 : X 26 = _ := zk3 (hI 26);have e27 : X 27 = _ := zk3 (hI 27);have e28 : X 28 = _ := zk3 (hI 28);have e29 : X 29 = _ := zk3 (hI 29);have e30 : X 30 = _ := zk3 (hI 30);have e31 : X 31 = _ := zk3 (hI 31);have e33 : X 33 = _ := zk3 (hI 33);have e34 : X 34 = _ := zk3 (hI 34);rcases vs with _ | ⟨v0,_ | ⟨vz,vs⟩⟩
       ·simp at hlen
       rotate_left
       ·simp at hlen
       have e32 : X 32 = v0 := hX 0 32 (by simp) (by kernel_rfl);clear hX hI hlen;rw [frame53];simp only [e0,e1,e2,e3,e4,e5,e6,e7,e8,e9,e10,e11,e12,e13,e14,e15,e16,e17,e18,e19,e20,e21,e22,e23,e24,e25,e26,e27,e28,e29,e30,e31,e32,e33,e34];obtain ⟨hE1,-⟩ := hph;have hr5 := HRI.out.ext hE1;have hk5 := HKI.out.trans (Keeps.of_ext (X := fun b => b = blk) hE1);generalize w' = W5 at *;clear HCX HCY HCL;have hjs : jp + 1 < dj.size := (by omega);have hcx : W5.cell? ⟨blk,jp + 1,none⟩ = some (.int .i64 x) := (by rw [<- HX0.out]; exact hr5.cell (jp + 1) hjs);have hcy : W5.cell? ⟨blk,jp,none⟩ = some (.int .i64 y) := (by rw [<- HY0.out]; exact hr5.cell jp (by omega));have hzz := fun o => hr5.frozen o
       have hxx : ∀ vs w',vs.length <= 0 -> PhX W5 blk (jp + 1) jp x y vs w' -> w'.cell? ⟨blk,jp + 1,none⟩ = some (.int .i64 x) := fun vs w' hn h => by
        rcases vs with _ | ⟨u,vs⟩
        ·exact (h.cell (p := ⟨blk,jp + 1,none⟩) hr5.lt).trans hcx
        ·simp at hn
       have hxy : ∀ vs w',vs.length <= 0 -> PhX W5 blk (jp + 1) jp x y vs w' -> w'.cell? ⟨blk,jp,none⟩ = some (.int .i64 y) := fun vs w' hn h => by
        rcases vs with _ | ⟨u,vs⟩
        ·exact (h.cell (p := ⟨blk,jp,none⟩) hr5.lt).trans hcy
        ·simp at hn
       have hs0 : ∀ w',Ext W5 w' -> w'.cell? ⟨blk,jp + 1,none⟩ = some (.int .i64 x) /\ w'.frozen? ⟨blk,jp + 1,none⟩ = false := fun w' h => ⟨(h.cell (p := ⟨blk,jp + 1,none⟩) hr5.lt).trans hcx,(hr5.ext h).frozen _⟩
       have hs1 : ∀ w',Ext W5 w' -> (w'.setCell ⟨blk,jp + 1,none⟩ (.int .i64 y)).cell? ⟨blk,jp,none⟩ = some (.int .i64 y) /\ (w'.setCell ⟨blk,jp + 1,none⟩ (.int .i64 y)).frozen? ⟨blk,jp,none⟩ = false := fun w' h => by
        have h2 := (hr5.ext h).set (jp + 1) y;refine ⟨?_,h2.frozen _⟩;have hsz2 : jp < (dj.setIfInBounds (jp + 1) y).size := (by rw [Array.size_setIfInBounds]; omega);have := h2.cell jp hsz2;rw [this,getElem!_pos _ jp hsz2,Array.getElem_setIfInBounds_ne (by omega) (by omega)];rw [<- getElem!_pos dj jp (by omega),HY0.out]
       have HXX := hide hxx;have HXY := hide hxy;have HS0 := hide hs0;have HS1 := hide hs1;have HR5 := hide hr5;have HK5 := hide hk5;clear hxx hxy hs0 hs1 hr5 hk5 hcx hcy hzz
       go_upto_region 6 with (fail)
       refine wp_region_ph 53 [15,17] (PhX W5 blk (jp + 1) jp x y) (fun t v => match t with | 0 => v = .slice (some ⟨blk,0,none⟩) d.size cap | 1 => v = .int .i64 a | 2 => v = .int .i64 b | 3 => v = .func (.func g) #[] cb | 4 => v = undef | 5 => v = undef | 6 => v = undef | 7 => v = undef | 8 => v = .int .i64 i | 9 => v = .int .i64 (jp + 1) | 10 => v = .int .i64 a | 11 => v = .int .i64 (a + 1) | 12 => v = .int .i64 i | 13 => v = .int .i64 b | 14 => v = .bool true | 15 => v = u15 | 16 => v = u16 | 17 => v = .int .i64 i | 37 => v = .slice (some ⟨blk,0,none⟩) d.size cap | 38 => v = .int .i64 (jp + 1) | 39 => v = .slice (some ⟨blk,0,none⟩) d.size cap | 40 => v = .int .i64 (jp + 1) | 41 => v = .int .i64 jp | 42 => v = .slice (some ⟨blk,0,none⟩) d.size cap | 43 => v = .int .i64 (jp + 1) | 44 => v = .int .i64 jp | 45 => v = .pointer (some ⟨blk,jp,none⟩) | 46 => v = .int .i64 y | 47 => v = .slice (some ⟨blk,0,none⟩) d.size cap | 48 => v = .int .i64 (jp + 1) | 49 => v = .pointer (some ⟨blk,jp + 1,none⟩) | 50 => v = .int .i64 x | 51 => v = .pointer (some ⟨blk,jp + 1,none⟩) | 52 => v = .pointer (some ⟨blk,jp,none⟩) | _ => True) (by kernel_rfl) rfl (by kernel_rfl) (by kernel_rfl) (by kernel_rfl) ?_ ?_ ?_ ?_ ?_
       ·exact zb.drew
       ·intro t ht hno;split <;> first | exact True.intro | exact rfl | exact zn hno
       ·intro i o ho hmi vs X w' hpk hph hX hI K hK;have hin : i < 18 := (zg ho);rcases zo hin with rfl | rfl | rfl | rfl | rfl | rfl | rfl | rfl | rfl | rfl | rfl | rfl | rfl | rfl | rfl | rfl | rfl | rfl
        all_goals first | (exact absurd hmi (by decide)) | (obtain rfl := Option.some.inj ho; unfold wpOp; simp only [ho]; rw [if_pos (by rfl)]; left; rw [frame53])
        ·have e0 : X 0 = _ := zk1 (hI 0);go_simp;refine zm0 hK (.slice (some ⟨blk,0,none⟩) d.size cap) ?_;simp [frame53,Act.put, *]
        ·have e9 : X 9 = _ := zk1 (hI 9);go_simp;refine zm0 hK (.int .i64 (jp + 1)) ?_;simp [frame53,Act.put, *]
        ·have e0 : X 0 = _ := zk1 (hI 0);go_simp;refine zm0 hK (.slice (some ⟨blk,0,none⟩) d.size cap) ?_;simp [frame53,Act.put, *]
        ·have e9 : X 9 = _ := zk1 (hI 9);go_simp;refine zm0 hK (.int .i64 (jp + 1)) ?_;simp [frame53,Act.put, *]
        ·have e40 : X 40 = _ := zk1 (hI 40);go_simp;refine zm0 hK (.int .i64 jp) ?_;simp [frame53,Act.put, *]
        ·have e0 : X 0 = _ := zk1 (hI 0);go_simp;refine zm0 hK (.slice (some ⟨blk,0,none⟩) d.size cap) ?_;simp [frame53,Act.put, *]
        ·have e9 : X 9 = _ := zk1 (hI 9);go_simp;refine zm0 hK (.int .i64 (jp + 1)) ?_;simp [frame53,Act.put, *]
        ·have e43 : X 43 = _ := zk1 (hI 43);go_simp;refine zm0 hK (.int .i64 jp) ?_;simp [frame53,Act.put, *]
        ·have e42 : X 42 = _ := zk1 (hI 42);have e44 : X 44 = _ := zk1 (hI 44);go_simp;refine zm0 hK (.pointer (some ⟨blk,jp,none⟩)) ?_;simp [frame53,Act.put, *]
        ·have e45 : X 45 = _ := zk1 (hI 45);have c0 := HXY.out vs w' ((hpk 0 (by decide)).2 (by kernel_rfl)) hph;go_simp;refine zm0 hK (.int .i64 y) ?_;simp [frame53,Act.put, *]
        ·have e0 : X 0 = _ := zk1 (hI 0);go_simp;refine zm0 hK (.slice (some ⟨blk,0,none⟩) d.size cap) ?_;simp [frame53,Act.put, *]
        ·have e9 : X 9 = _ := zk1 (hI 9);go_simp;refine zm0 hK (.int .i64 (jp + 1)) ?_;simp [frame53,Act.put, *]
        ·have e47 : X 47 = _ := zk1 (hI 47);have e48 : X 48 = _ := zk1 (hI 48);go_simp;refine zm0 hK (.pointer (some ⟨blk,jp + 1,none⟩)) ?_;simp [frame53,Act.put, *]
        ·have e49 : X 49 = _ := zk1 (hI 49);have c0 := HXX.out vs w' ((hpk 0 (by decide)).2 (by kernel_rfl)) hph;go_simp;refine zm0 hK (.int .i64 x) ?_;simp [frame53,Act.put, *]
        ·have e37 : X 37 = _ := zk1 (hI 37);have e38 : X 38 = _ := zk1 (hI 38);go_simp;refine zm0 hK (.pointer (some ⟨blk,jp + 1,none⟩)) ?_;simp [frame53,Act.put, *]
        ·have e39 : X 39 = _ := zk1 (hI 39);have e41 : X 41 = _ := zk1 (hI 41);go_simp;refine zm0 hK (.pointer (some ⟨blk,jp,none⟩)) ?_;simp [frame53,Act.put, *]
       ·intro i o ho hmi vs X w' hqi hql hph hX hI K hK;rcases vs with _ | ⟨v0,_ | ⟨v1,_⟩⟩
        ·obtain rfl : 15 = i := hqi;obtain rfl := Option.some.inj ho;have e46 : X 46 = _ := zk1 (hI 46);have e51 : X 51 = _ := zk1 (hI 51);obtain ⟨c0,z0⟩ := HS0.out w' hph;unfold wpOp;simp only [ho];rw [if_pos (by rfl)];left;rw [frame53];go_simp;refine metK (hK.out undef _ ⟨w',hph,rfl⟩) ?_;simp [frame53,Act.put, *]
        ·obtain rfl : 17 = i := hqi;obtain rfl := Option.some.inj ho;have e50 : X 50 = _ := zk1 (hI 50);have e52 : X 52 = _ := zk1 (hI 52);obtain ⟨w1,hE1,rfl⟩ := hph;obtain ⟨c0,z0⟩ := HS1.out w1 hE1;unfold wpOp;simp only [ho];rw [if_pos (by rfl)];left;rw [frame53];go_simp;refine metK (hK.out undef _ ⟨w1,hE1,rfl⟩) ?_;simp [frame53,Act.put, *]
        ·simp at hql <;> omega
       ·intro vs X w' hlen hph hX hI;have e0 : X 0 = _ := zk3 (hI 0);have e1 : X 1 = _ := zk3 (hI 1);have e2 : X 2 = _ := zk3 (hI 2);have e3 : X 3 = _ := zk3 (hI 3);have e4 : X 4 = _ := zk3 (hI 4);have e5 : X 5 = _ := zk3 (hI 5);have e6 : X 6 = _ := zk3 (hI 6);have e7 : X 7 = _ := zk3 (hI 7);have e8 : X 8 = _ := zk3 (hI 8);have e9 : X 9 = _ := zk3 (hI 9);have e10 : X 10 = _ := zk3 (hI 10);have e11 : X 11 = _ := zk3 (hI 11);have e12 : X 12 = _ := zk3 (hI 12);have e13 : X 13 = _ := zk3 (hI 13);have e14 : X 14 = _ := zk3 (hI 14);have e15 : X 15 = _ := zk3 (hI 15);have e16 : X 16 = _ := zk3 (hI 16);have e17 : X 17 = _ := zk3 (hI 17);have e37 : X 37 = _ := zk3 (hI 37);have e38 : X 38 = _ := zk3 (hI 38);have e39 : X 39 = _ := zk3 (hI 39);have e40 : X 40 = _ := zk3 (hI 40);have e41 : X 41 = _ := zk3 (hI 41);have e42 : X 42 = _ := zk3 (hI 42);have e43 : X 43 = _ := zk3 (hI 43);have e44 : X 44 = _ := zk3 (hI 44);have e45 : X 45 = _ := zk3 (hI 45);have e46 : X 46 = _ := zk3 (hI 46);have e47 : X 47 = _ := zk3 (hI 47);have e48 : X 48 = _ := zk3 (hI 48);have e49 : X 49 = _ := zk3 (hI 49);have e50 : X 50 = _ := zk3 (hI 50);have e51 : X 51 = _ := zk3 (hI 51);have e52 : X 52 = _ := zk3 (hI 52);rcases vs with _ | ⟨v0,_ | ⟨v1,_ | ⟨vz,vs⟩⟩⟩
        ·simp at hlen
        ·simp at hlen
        rotate_left
        ·simp at hlen
        clear hX hI hlen;rw [frame53];simp only [e0,e1,e2,e3,e4,e5,e6,e7,e8,e9,e10,e11,e12,e13,e14,e15,e16,e17,e37,e38,e39,e40,e41,e42,e43,e44,e45,e46,e47,e48,e49,e50,e51,e52];obtain ⟨w1,hE1,rfl⟩ := hph;have hr6 := (HR5.out.ext hE1).swap (jp + 1) jp;rw [HX0.out,HY0.out] at hr6;have hk6 := (HK5.out.trans (Keeps.of_ext (X := fun b => b = blk) hE1)).trans ((Keeps.of_set (X := fun b => b = blk) w1 blk (jp + 1) (.int .i64 y) rfl).trans (Keeps.of_set (X := fun b => b = blk) _ blk jp (.int .i64 x) rfl));generalize (w1.setCell ⟨blk,jp + 1,none⟩ (.int .i64 y)).setCell ⟨blk,jp,none⟩ (.int .i64 x) = W6 at hr6 hk6 ⊢;have HR6 := hide hr6;have HK6 := hide hk6;clear hr6 hk6;go_wp2
        go_roundw
        case rel => exact ⟨jp,swp dj (jp + 1) jp,by go_num,by omega,by omega,by rw [swp_size]; exact hsj,HIR.out.swp _ _ (by omega) (by omega),HR6.out,HK6.out,(show Hid _ from by rw [<- HI.out,insInner_go (ltOf cf) a (jp + 1) dj (by omega) (by simpa using HLT.out)]; rfl)⟩
        case measure => simp [intOf] <;> omega
     ·have HLF := hide (show ltOf cf dj[jp + 1]! dj[jp]! = false by unfold ltOf; rw [HX0.out,HY0.out,hz]; exact decide_eq_false hzn);clear hz
      go_upto_region 4 with (fail)
      refine wp_region_ph 53 [14] (PhC wr z) (fun t v => match t with | 0 => v = .slice (some ⟨blk,0,none⟩) d.size cap | 1 => v = .int .i64 a | 2 => v = .int .i64 b | 3 => v = .func (.func g) #[] cb | 4 => v = undef | 5 => v = undef | 6 => v = undef | 7 => v = undef | 8 => v = .int .i64 i | 9 => v = .int .i64 (jp + 1) | 10 => v = .int .i64 a | 11 => v = .int .i64 (a + 1) | 12 => v = .int .i64 i | 13 => v = .int .i64 b | 14 => v = .bool true | 15 => v = u15 | 16 => v = u16 | 17 => v = .int .i64 i | 18 => v = .int .i64 (jp + 1) | 19 => v = .int .i64 a | 20 => v = .bool true | 21 => v = .bool true | 22 => v = .func (.func g) #[] cb | 23 => v = .slice (some ⟨blk,0,none⟩) d.size cap | 24 => v = .int .i64 (jp + 1) | 25 => v = .pointer (some ⟨blk,jp + 1,none⟩) | 26 => v = .int .i64 x | 27 => v = .slice (some ⟨blk,0,none⟩) d.size cap | 28 => v = .int .i64 (jp + 1) | 29 => v = .int .i64 jp | 30 => v = .pointer (some ⟨blk,jp,none⟩) | 31 => v = .int .i64 y | 33 => v = .bool false | 34 => v = .bool false | _ => True) (by kernel_rfl) rfl (by kernel_rfl) (by kernel_rfl) (by kernel_rfl) ?_ ?_ ?_ ?_ ?_
      ·exact zb.drew
      ·intro t ht hno;split <;> first | exact True.intro | exact rfl | exact zn hno
      ·intro i o ho hmi vs X w' hpk hph hX hI K hK;have hin : i < 17 := (zg ho);rcases zo hin with rfl | rfl | rfl | rfl | rfl | rfl | rfl | rfl | rfl | rfl | rfl | rfl | rfl | rfl | rfl | rfl | rfl
       all_goals first | (exact absurd hmi (by decide)) | (obtain rfl := Option.some.inj ho; unfold wpOp; simp only [ho]; rw [if_pos (by rfl)]; left; rw [frame53]) | (obtain rfl := Option.some.inj ho; have e21 : X 21 = _ := zk1 (hI 21); unfold wpOp; simp only [ho]; rw [frame53]; simp only [e21]; rw [if_pos (by rfl)]; left)
       ·have e9 : X 9 = _ := zk1 (hI 9);go_simp;refine zm0 hK (.int .i64 (jp + 1)) ?_;simp [frame53,Act.put, *]
       ·have e1 : X 1 = _ := zk1 (hI 1);go_simp;refine zm0 hK (.int .i64 a) ?_;simp [frame53,Act.put, *]
       ·have e18 : X 18 = _ := zk1 (hI 18);have e19 : X 19 = _ := zk1 (hI 19);go_simp;refine zm0 hK (.bool true) ?_;simp [frame53,Act.put, *]
       ·have e20 : X 20 = _ := zk1 (hI 20);go_simp;refine zm0 hK (.bool true) ?_;simp [frame53,Act.put, *]
       ·have e3 : X 3 = _ := zk1 (hI 3);go_simp;refine zm0 hK (.func (.func g) #[] cb) ?_;simp [frame53,Act.put, *]
       ·have e0 : X 0 = _ := zk1 (hI 0);go_simp;refine zm0 hK (.slice (some ⟨blk,0,none⟩) d.size cap) ?_;simp [frame53,Act.put, *]
       ·have e9 : X 9 = _ := zk1 (hI 9);go_simp;refine zm0 hK (.int .i64 (jp + 1)) ?_;simp [frame53,Act.put, *]
       ·have e23 : X 23 = _ := zk1 (hI 23);have e24 : X 24 = _ := zk1 (hI 24);go_simp;refine zm0 hK (.pointer (some ⟨blk,jp + 1,none⟩)) ?_;simp [frame53,Act.put, *]
       ·have e25 : X 25 = _ := zk1 (hI 25);have c0 := HCX.out vs w' ((hpk 0 (by decide)).2 (by kernel_rfl)) hph;go_simp;refine zm0 hK (.int .i64 x) ?_;simp [frame53,Act.put, *]
       ·have e0 : X 0 = _ := zk1 (hI 0);go_simp;refine zm0 hK (.slice (some ⟨blk,0,none⟩) d.size cap) ?_;simp [frame53,Act.put, *]
       ·have e9 : X 9 = _ := zk1 (hI 9);go_simp;refine zm0 hK (.int .i64 (jp + 1)) ?_;simp [frame53,Act.put, *]
       ·have e28 : X 28 = _ := zk1 (hI 28);go_simp;refine zm0 hK (.int .i64 jp) ?_;simp [frame53,Act.put, *]
       ·have e27 : X 27 = _ := zk1 (hI 27);have e29 : X 29 = _ := zk1 (hI 29);go_simp;refine zm0 hK (.pointer (some ⟨blk,jp,none⟩)) ?_;simp [frame53,Act.put, *]
       ·have e30 : X 30 = _ := zk1 (hI 30);have c0 := HCY.out vs w' ((hpk 0 (by decide)).2 (by kernel_rfl)) hph;go_simp;refine zm0 hK (.int .i64 y) ?_;simp [frame53,Act.put, *]
       ·have hl := (hpk 0 (by decide)).1 (by kernel_rfl);rcases vs with _ | ⟨v,_ | ⟨v2,vs⟩⟩
        ·simp at hl
        ·obtain ⟨hE1,rfl⟩ := hph;have e32 : X 32 = .int .i64 z := hX 0 32 (by simp) (by kernel_rfl);go_simp;refine zm0 hK (.bool false) ?_;simp [frame53,Act.put, *]
        ·exact hph.elim
       ·have e21 : X 21 = _ := zk1 (hI 21);have e33 : X 33 = _ := zk1 (hI 33);go_simp;refine zm0 hK (.bool false) ?_;simp [frame53,Act.put, *]
      ·intro i o ho hmi vs X w' hqi hql hph hX hI K hK;rcases vs with _ | ⟨v0,_⟩
       ·obtain rfl : 14 = i := hqi;obtain rfl := Option.some.inj ho;have e21 : X 21 = _ := zk1 (hI 21);have e22 : X 22 = _ := zk1 (hI 22);have e26 : X 26 = _ := zk1 (hI 26);have e31 : X 31 = _ := zk1 (hI 31);unfold wpOp;simp only [ho];rw [frame53];simp only [e21];rw [if_pos (by rfl)];left;go_simp;refine (HCL.out w' hph).mono ?_;rintro e w9 ⟨rfl,E9⟩;refine metK (hK.out (.int .i64 z) w9 ⟨hph.trans E9,rfl⟩) ?_;simp [frame53,Act.put, *]
       ·simp at hql <;> omega
      ·intro vs X w' hlen hph hX hI;have e0 : X 0 = _ := zk3 (hI 0);have e1 : X 1 = _ := zk3 (hI 1);have e2 : X 2 = _ := zk3 (hI 2);have e3 : X 3 = _ := zk3 (hI 3);have e4 : X 4 = _ := zk3 (hI 4);have e5 : X 5 = _ := zk3 (hI 5);have e6 : X 6 = _ := zk3 (hI 6);have e7 : X 7 = _ := zk3 (hI 7);have e8 : X 8 = _ := zk3 (hI 8);have e9 : X 9 = _ := zk3 (hI 9);have e10 : X 10 = _ := zk3 (hI 10);have e11 : X 11 = _ := zk3 (hI 11);have e12 : X 12 = _ := zk3 (hI 12);have e13 : X 13 = _ := zk3 (hI 13);have e14 : X 14 = _ := zk3 (hI 14);have e15 : X 15 = _ := zk3 (hI 15);have e16 : X 16 = _ := zk3 (hI 16);have e17 : X 17 = _ := zk3 (hI 17);have e18 : X 18 = _ := zk3 (hI 18);have e19 : X 19 = _ := zk3 (hI 19);have e20 : X 20 = _ := zk3 (hI 20);have e21 : X 21 = _ := zk3 (hI 21);have e22 : X 22 = _ := zk3 (hI 22);have e23 : X 23 = _ := zk3 (hI 23);have e24 : X 24 = _ := zk3 (hI 24);have e25 : X 25 = _ := zk3 (hI 25);have e26 : X 26 = _ := zk3 (hI 26);have e27 : X 27 = _ := zk3 (hI 27);have e28 : X 28 = _ := zk3 (hI 28);have e29 : X 29 = _ := zk3 (hI 29);have e30 : X 30 = _ := zk3 (hI 30);have e31 : X 31 = _ := zk3 (hI 31);have e33 : X 33 = _ := zk3 (hI 33);have e34 : X 34 = _ := zk3 (hI 34);rcases vs with _ | ⟨v0,_ | ⟨vz,vs⟩⟩
       ·simp at hlen
       rotate_left
       ·simp at hlen
       have e32 : X 32 = v0 := hX 0 32 (by simp) (by kernel_rfl);clear hX hI hlen;rw [frame53];simp only [e0,e1,e2,e3,e4,e5,e6,e7,e8,e9,e10,e11,e12,e13,e14,e15,e16,e17,e18,e19,e20,e21,e22,e23,e24,e25,e26,e27,e28,e29,e30,e31,e32,e33,e34];obtain ⟨hE1,-⟩ := hph;have hr5 := HRI.out.ext hE1;have hk5 := HKI.out.trans (Keeps.of_ext (X := fun b => b = blk) hE1);have HR5 := hide hr5;have HK5 := hide hk5;clear hr5 hk5;go_wp2
       go_roundw
       case rel => exact ⟨i + 1,dj,by go_num,by omega,by omega,hsj,HIR.out,HR5.out,HK5.out,OUT.out (.inr (by simpa using HLF.out))⟩
       case measure => simp [intOf] <;> omega
    ·obtain rfl : j = a := (by omega);have hjd : decide ((j : Int) > (j : Int)) = false := decide_eq_false (by omega);have hjd2 : ¬ (j : Int) < (j : Int) := by omega
     go_wp2_with fail
     go_quiet (fail)
     rename_i nq;obtain ⟨wq,hwq⟩ : ∃ wq,wr.drewN nq = wq := ⟨_,rfl⟩;have HR5 := hide (show RowI wq blk cap dj by rw [<- hwq]; exact HRI.out);have HK5 := hide (show Keeps (fun b => b = blk) w wq by rw [<- hwq]; exact HKI.out.trans (Keeps.of_ext (Below.drewN' zb nq)));rw [hwq];clear hwq;go_wp2
     go_roundw
     case rel => exact ⟨i + 1,dj,by go_num,by omega,by omega,hsj,HIR.out,HR5.out,HK5.out,OUT.out (.inl (by omega))⟩
     case measure => simp [intOf]; omega
  ·have hltz : ¬ (i : Int) < (b : Int) := (by omega);go_wp2;go_end0;refine ⟨rfl, ?_,HKI0.out⟩;have := HO.out;rw [insOuter_stop _ _ _ _ _ hlt] at this;unfold insertionSort;rw [<- this];exact HRI0.out
end Go.Proofs.YtoaiakhnnfbkdaaGreatDoor
