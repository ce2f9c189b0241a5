/- Lemmas. -/
import Derived.Test.YtoaiakhnnfbkdaaGreatDoorSrE
import Derived.Test.YtoaiakhnnfbkdaaGreatDoorZrw
set_option maxRecDepth 100000
set_option maxHeartbeats 32000000
namespace Go.Proofs.YtoaiakhnnfbkdaaGreatDoor
open Go.ChangeShapes Go.WideShapes Go.ChangeAt Go.RowKit Go.Lib Go.Shelf Go.Maps Go.Sort
theorem frame38 (x : Nat -> Value) : frameOf 38 x = #[x 0,x 1,x 2,x 3,x 4,x 5,x 6,x 7,x 8,x 9,x 10,x 11,x 12,x 13,x 14,x 15,x 16,x 17,x 18,x 19,x 20,x 21,x 22,x 23,x 24,x 25,x 26,x 27,x 28,x 29,x 30,x 31,x 32,x 33,x 34,x 35,x 36,x 37] := rfl
def RowE (w : World) (blk cap : Nat) (d : Array EndD) : Prop := ∃ cs,w.heap[blk]? = some (.cells cs 53 (0,0)) /\ cs.size = cap * 3 /\ d.size <= cap /\ ∀ i,i < d.size -> cs[i * 3]? = some (.int .i64 d[i]!.id) /\ cs[i * 3 + 1]? = some (.int .i64 d[i]!.svc) /\ cs[i * 3 + 2]? = some (.int .i64 d[i]!.zone)
def set3 (w : World) (blk i : Nat) (z : EndD) : World := ((w.setCell ⟨blk,i * 3,none⟩ (.int .i64 z.id)).setCell ⟨blk,i * 3 + 1,none⟩ (.int .i64 z.svc)).setCell ⟨blk,i * 3 + 2,none⟩ (.int .i64 z.zone)
section
variable {w w' : World} {blk cap : Nat} {d : Array EndD}
theorem RowE.cell (h : RowE w blk cap d) (i : Nat) (hi : i < d.size) : w.cell? ⟨blk,i * 3,none⟩ = some (.int .i64 d[i]!.id) /\ w.cell? ⟨blk,i * 3 + 1,none⟩ = some (.int .i64 d[i]!.svc) /\ w.cell? ⟨blk,i * 3 + 2,none⟩ = some (.int .i64 d[i]!.zone) := by
 obtain ⟨cs,h1,h2,h3,h4⟩ := h;simp only [World.cell?,h1];exact h4 i hi
theorem RowE.frozen (h : RowE w blk cap d) (o : Nat) : w.frozen? ⟨blk,o,none⟩ = false := by
 obtain ⟨cs,h1,h2,h3,h4⟩ := h;simp [World.frozen?,h1]
theorem RowE.lt (h : RowE w blk cap d) : blk < w.heap.size := by
 obtain ⟨cs,h1,_⟩ := h;exact (zg h1)
theorem RowE.ext (h : RowE w blk cap d) (e : Ext w w') : RowE w' blk cap d := by
 have hl := h.lt;obtain ⟨cs,h1,h2⟩ := h;exact ⟨cs,(e.block blk hl).trans h1,h2⟩
theorem set_heap (hb : ∃ cs,w.heap[blk]? = some (.cells cs 53 (0,0))) (o : Nat) (u : Value) : ∀ cs,w.heap[blk]? = some (.cells cs 53 (0,0)) -> (w.setCell ⟨blk,o,none⟩ u).heap[blk]? = some (.cells (cs.setIfInBounds o u) 53 (0,0)) := fun cs hc => by
 obtain ⟨hlt,hk⟩ := Array.getElem?_eq_some_iff.1 hc;show (w.heap.modify blk _)[blk]? = _;rw [Array.getElem?_eq_getElem (by rw [Array.size_modify]; exact hlt),Array.getElem_modify_self,hk];rfl
theorem RowE.set (h : RowE w blk cap d) (i : Nat) (z : EndD) : RowE (set3 w blk i z) blk cap (d.setIfInBounds i z) := by
 obtain ⟨cs,hb,h2,h3,h4⟩ := h;have e1 := set_heap ⟨cs,hb⟩ (i * 3) (.int .i64 z.id) cs hb;have e2 := set_heap ⟨_,e1⟩ (i * 3 + 1) (.int .i64 z.svc) _ e1;have e3 := set_heap ⟨_,e2⟩ (i * 3 + 2) (.int .i64 z.zone) _ e2;refine ⟨_,e3,by simp [h2],by simpa using h3,fun j hj => ?_⟩;have hj' : j < d.size := by simpa using hj
 have hj3 : j * 3 + 2 < cs.size := by omega
 simp only [Array.getElem?_setIfInBounds,Array.size_setIfInBounds];by_cases hij : i = j
 ·subst hij
  have e : (d.setIfInBounds i z)[i]! = z := by
   rw [getElem!_pos _ i (by simpa using hj')];simp
  rw [e];refine ⟨?_, ?_, ?_⟩
  ·rw [if_neg (by omega),if_neg (by omega),if_pos rfl,if_pos (by omega)]
  ·rw [if_neg (by omega),if_pos rfl,if_pos (by omega)]
  ·rw [if_pos rfl,if_pos (by omega)]
 ·have e : (d.setIfInBounds i z)[j]! = d[j]! := by
   rw [getElem!_pos _ j (by simpa using hj'),getElem!_pos d j hj',Array.getElem_setIfInBounds_ne _ hij]
  rw [e];obtain ⟨g1,g2,g3⟩ := h4 j hj';refine ⟨?_, ?_, ?_⟩
  ·rw [if_neg (by omega),if_neg (by omega),if_neg (by omega)]; exact g1
  ·rw [if_neg (by omega),if_neg (by omega),if_neg (by omega)]; exact g2
  ·rw [if_neg (by omega),if_neg (by omega),if_neg (by omega)]; exact g3
theorem RowE.swap (h : RowE w blk cap d) (i j : Nat) : RowE (set3 (set3 w blk i d[j]!) blk j d[i]!) blk cap (swp d i j) := (h.set i _).set j _
theorem keeps_set3 (w : World) (blk i : Nat) (z : EndD) : Keeps (fun b => b = blk) w (set3 w blk i z) :=
 ((Keeps.of_set (X := fun b => b = blk) w blk (i * 3) _ rfl).trans (Keeps.of_set (X := fun b => b = blk) _ blk (i * 3 + 1) _ rfl)).trans (Keeps.of_set (X := fun b => b = blk) _ blk (i * 3 + 2) _ rfl)
def PhXE (W : World) (blk i j : Nat) (x y : EndD) : List Value -> World -> Prop
 | [],w' => Ext W w'
 | [_],w' => ∃ w1,Ext W w1 /\ Ext (set3 w1 blk i y) w'
 | [_,_],w' => ∃ w1 w2,Ext W w1 /\ Ext (set3 w1 blk i y) w2 /\ Ext (set3 w2 blk j x) w'
 | _,_ => False
theorem PhXE.ext {W : World} {blk i j : Nat} {x y : EndD} : ∀ {vs : List Value} {w' w'' : World},PhXE W blk i j x y vs w' -> Ext w' w'' -> PhXE W blk i j x y vs w''
 | [],_,_,h,e => Ext.trans h e
 | [_],_,_,⟨w1,h1,h2⟩,e => ⟨w1,h1,h2.trans e⟩
 | [_,_],_,_,⟨w1,w2,h1,h2,h3⟩,e => ⟨w1,w2,h1,h2,h3.trans e⟩
 | _ :: _ :: _ :: _,_,_,h,_ => h.elim
end
def swpR (d : Array EndD) (a b : Nat) : Nat -> Array EndD
 | 0 => d
 | k + 1 => swp (swpR d a b k) (a + k) (b + k)
theorem swpR_size (d : Array EndD) (a b : Nat) : ∀ k,(swpR d a b k).size = d.size
 | 0 => rfl
 | k + 1 => by rw [swpR,swp_size,swpR_size d a b k]
theorem swapRE_any (blk n cap : Nat) (d : Array EndD) (a b k : Nat) (fv : Value) (w : World) (h : RowE w blk cap d) (hn : d.size = n) (hab : a + k <= n) (hbb : b + k <= n) (hn6 : n <= 1000000) :
  Calls Tryz.prog 173 #[.slice (some ⟨blk,0,none⟩) n cap,.int .i64 a,.int .i64 b,.int .i64 k,fv] w fun e w' => e = .returned (.tuple #[]) /\ RowE w' blk cap (swpR d a b k) /\ Keeps (fun q => q = blk) w w' := by
 have H := hide h;clear h
 go_enter Tryz.func173,Tryz.ntmps173
 go_wp2_with fail
 go_loopw [10] (fun v10 wr => ∃ i : Nat,i <= k /\ v10 = .int .i64 i /\ Hid (RowE wr blk cap (swpR d a b i)) /\ Hid (Keeps (fun q => q = blk) w wr)) (fun i _ => k - (intOf i).toNat)
 case atStart => exact ⟨0,Nat.zero_le _,rfl,H.out,Keeps.refl _ _⟩
 case round =>
  obtain ⟨i,hi,rfl,hr,hk⟩ := hrel;have HR := hide hr.out;have HK := hide hk.out;clear hr hk;by_cases hlt : i < k
  ·have hltz : (i : Int) < k := (by omega);have HWI := hide (show IntKind.i64.wrap ((i : Int) + 1) = ((i + 1 : Nat) : Int) by rw [IntKind.wrap_i64]; omega);obtain ⟨p,hp⟩ : ∃ p,a + i = p := ⟨_,rfl⟩;obtain ⟨q,hq⟩ : ∃ q,b + i = q := ⟨_,rfl⟩;have HP := hide (show a + i = p /\ b + i = q from ⟨hp,hq⟩);have HWP := hide (show IntKind.i64.wrap ((a : Int) + (i : Int)) = (p : Int) /\ IntKind.i64.wrap ((b : Int) + (i : Int)) = (q : Int) by constructor <;> rw [IntKind.wrap_i64] <;> omega)
   have HBD := hide (show (0 : Int) <= p /\ (p : Int) < n /\ (0 : Int) <= q /\ (q : Int) < n by omega);have hds : (swpR d a b i).size = n := (by rw [swpR_size,hn]);have hpd : p < (swpR d a b i).size := (by omega);have hqd : q < (swpR d a b i).size := (by omega);have hcx := HR.out.cell p hpd;have hcy := HR.out.cell q hqd;obtain ⟨x,hx⟩ : ∃ x,(swpR d a b i)[p]! = x := ⟨_,rfl⟩;obtain ⟨y,hy⟩ : ∃ y,(swpR d a b i)[q]! = y := ⟨_,rfl⟩;rw [hx] at hcx;rw [hy] at hcy;have HX0 := hide hx;have HY0 := hide hy;obtain ⟨xi,xs,xz⟩ := x;obtain ⟨yi,ys,yz⟩ := y;have hup : ∀ {w' : World} {j : Nat},Ext wr w' -> w'.cell? ⟨blk,j,none⟩ = wr.cell? ⟨blk,j,none⟩ := fun h => h.cell HR.out.lt
   have hxx : ∀ vs w',vs.length <= 0 -> PhXE wr blk p q ⟨xi,xs,xz⟩ ⟨yi,ys,yz⟩ vs w' -> w'.cell? ⟨blk,p * 3,none⟩ = some (.int .i64 xi) /\ w'.cell? ⟨blk,p * 3 + 1,none⟩ = some (.int .i64 xs) /\ w'.cell? ⟨blk,p * 3 + 2,none⟩ = some (.int .i64 xz) := fun vs w' hn h => by
    rcases vs with _ | ⟨u,vs⟩
    ·rw [hup h,hup h,hup h]; exact hcx
    ·simp at hn
   have hxy : ∀ vs w',vs.length <= 0 -> PhXE wr blk p q ⟨xi,xs,xz⟩ ⟨yi,ys,yz⟩ vs w' -> w'.cell? ⟨blk,q * 3,none⟩ = some (.int .i64 yi) /\ w'.cell? ⟨blk,q * 3 + 1,none⟩ = some (.int .i64 ys) /\ w'.cell? ⟨blk,q * 3 + 2,none⟩ = some (.int .i64 yz) := fun vs w' hn h => by
    rcases vs with _ | ⟨u,vs⟩
    ·rw [hup h,hup h,hup h]; exact hcy
    ·simp at hn
   have hs0 : ∀ w',Ext wr w' -> ((∃ u,w'.cell? ⟨blk,p * 3,none⟩ = some u) /\ (∃ u,w'.cell? ⟨blk,p * 3 + 1,none⟩ = some u) /\ ∃ u,w'.cell? ⟨blk,p * 3 + 2,none⟩ = some u) /\ ∀ o,w'.frozen? ⟨blk,o,none⟩ = false := fun w' h => by
    obtain ⟨c0,c1,c2⟩ := (HR.out.ext h).cell p hpd;exact ⟨⟨⟨_,c0⟩,⟨_,c1⟩,⟨_,c2⟩⟩,(HR.out.ext h).frozen⟩
   have hs1 : ∀ w1 w',Ext wr w1 -> Ext (set3 w1 blk p (⟨yi,ys,yz⟩ : EndD)) w' -> ((∃ u,w'.cell? ⟨blk,q * 3,none⟩ = some u) /\ (∃ u,w'.cell? ⟨blk,q * 3 + 1,none⟩ = some u) /\ ∃ u,w'.cell? ⟨blk,q * 3 + 2,none⟩ = some u) /\ ∀ o,w'.frozen? ⟨blk,o,none⟩ = false := fun w1 w' h k => by
    have h2 := ((HR.out.ext h).set p ⟨yi,ys,yz⟩).ext k;obtain ⟨c0,c1,c2⟩ := h2.cell q (by rw [Array.size_setIfInBounds]; omega);exact ⟨⟨⟨_,c0⟩,⟨_,c1⟩,⟨_,c2⟩⟩,h2.frozen⟩
   have HCX := hide hxx;have HCY := hide hxy;have HS0 := hide hs0;have HS1 := hide hs1;clear hcx hcy hx hy hp hq hup hxx hxy hs0 hs1
   go_upto_region 3 with (fail)
   refine wp_region_rw 38 [21,23] [16,17,18,19,20,21,22,23,24,25,26,27,28,29,30,31,32,33,34,35,36,37] (PhXE wr blk p q ⟨xi,xs,xz⟩ ⟨yi,ys,yz⟩) (fun (t : Nat) (wI : World) (v : Value) => match t with | 16 => v = (.slice (some ⟨blk,0,none⟩) n cap) | 17 => v = (.int .i64 (a : Nat)) | 18 => v = (.int .i64 (i : Nat)) | 19 => v = (.int .i64 (p : Nat)) | 20 => v = (.slice (some ⟨blk,0,none⟩) n cap) | 21 => v = (.int .i64 (b : Nat)) | 22 => v = (.int .i64 (i : Nat)) | 23 => v = (.int .i64 (q : Nat)) | 24 => v = (.slice (some ⟨blk,0,none⟩) n cap) | 25 => v = (.int .i64 (b : Nat)) | 26 => v = (.int .i64 (i : Nat)) | 27 => v = (.int .i64 (q : Nat)) | 28 => v = (.pointer (some ⟨blk,q * 3,none⟩)) | 29 => v = (.agg #[.int .i64 yi,.int .i64 ys,.int .i64 yz]) | 30 => v = (.slice (some ⟨blk,0,none⟩) n cap) | 31 => v = (.int .i64 (a : Nat)) | 32 => v = (.int .i64 (i : Nat)) | 33 => v = (.int .i64 (p : Nat)) | 34 => v = (.pointer (some ⟨blk,p * 3,none⟩)) | 35 => v = (.agg #[.int .i64 xi,.int .i64 xs,.int .i64 xz]) | 36 => v = (.pointer (some ⟨blk,p * 3,none⟩)) | 37 => v = (.pointer (some ⟨blk,q * 3,none⟩)) | _ => True) (fun _ _ => True) (by kernel_rfl) rfl (by kernel_rfl) (by kernel_rfl) (by kernel_rfl) (by kernel_rfl) ?_ ?_ ?_ ?_ ?_ ?_ ?_
   ·intro w' w'' h;trivial
   ·intro t w' w'' v hR hv;exact hv
   ·intro vs w' w'' h e;exact PhXE.ext h e
   ·exact zb.drew
   ·intro i o ho hmi vs X w' hpk hph hX hI hF K hK;have hin : i < 24 := (zg ho);rcases zo hin with rfl | rfl | rfl | rfl | rfl | rfl | rfl | rfl | rfl | rfl | rfl | rfl | rfl | rfl | rfl | rfl | rfl | rfl | rfl | rfl | rfl | rfl | rfl | rfl
    all_goals first | (exact absurd hmi (by decide)) | (obtain rfl := Option.some.inj ho; unfold wpOp; simp only [ho]; rw [if_pos (by rfl)]; left; rw [frame38])
    ·have e0 : X 0 = (.slice (some ⟨blk,0,none⟩) n cap) := zk3 (hF 0);go_simp;refine zm1 hK ((.slice (some ⟨blk,0,none⟩) n cap)) ?_;simp [frame38,Act.put, *]
    ·have e1 : X 1 = (.int .i64 (a : Nat)) := zk3 (hF 1);go_simp;refine zm1 hK ((.int .i64 (a : Nat))) ?_;simp [frame38,Act.put, *]
    ·have e10 : X 10 = (.int .i64 (i : Nat)) := zk3 (hF 10);go_simp;refine zm1 hK ((.int .i64 (i : Nat))) ?_;simp [frame38,Act.put, *]
    ·have e17 : X 17 = _ := zk2 (hI 17);have e18 : X 18 = _ := zk2 (hI 18);have q3 := HWP.out.1;go_simp;refine zm1 hK ((.int .i64 (p : Nat))) ?_;simp [frame38,Act.put, *]
    ·have e0 : X 0 = (.slice (some ⟨blk,0,none⟩) n cap) := zk3 (hF 0);go_simp;refine zm1 hK ((.slice (some ⟨blk,0,none⟩) n cap)) ?_;simp [frame38,Act.put, *]
    ·have e2 : X 2 = (.int .i64 (b : Nat)) := zk3 (hF 2);go_simp;refine zm1 hK ((.int .i64 (b : Nat))) ?_;simp [frame38,Act.put, *]
    ·have e10 : X 10 = (.int .i64 (i : Nat)) := zk3 (hF 10);go_simp;refine zm1 hK ((.int .i64 (i : Nat))) ?_;simp [frame38,Act.put, *]
    ·have e21 : X 21 = _ := zk2 (hI 21);have e22 : X 22 = _ := zk2 (hI 22);have q3 := HWP.out.2;go_simp;refine zm1 hK ((.int .i64 (q : Nat))) ?_;simp [frame38,Act.put, *]
    ·have e0 : X 0 = (.slice (some ⟨blk,0,none⟩) n cap) := zk3 (hF 0);go_simp;refine zm1 hK ((.slice (some ⟨blk,0,none⟩) n cap)) ?_;simp [frame38,Act.put, *]
    ·have e2 : X 2 = (.int .i64 (b : Nat)) := zk3 (hF 2);go_simp;refine zm1 hK ((.int .i64 (b : Nat))) ?_;simp [frame38,Act.put, *]
    ·have e10 : X 10 = (.int .i64 (i : Nat)) := zk3 (hF 10);go_simp;refine zm1 hK ((.int .i64 (i : Nat))) ?_;simp [frame38,Act.put, *]
    ·have e25 : X 25 = _ := zk2 (hI 25);have e26 : X 26 = _ := zk2 (hI 26);have q3 := HWP.out.2;go_simp;refine zm1 hK ((.int .i64 (q : Nat))) ?_;simp [frame38,Act.put, *]
    ·have e24 : X 24 = _ := zk2 (hI 24);have e27 : X 27 = _ := zk2 (hI 27);have q1 := HBD.out.2.2.1;have q2 := HBD.out.2.2.2;go_simp;refine zm1 hK ((.pointer (some ⟨blk,q * 3,none⟩))) ?_;simp [frame38,Act.put, *]
    ·have e28 : X 28 = _ := zk2 (hI 28);obtain ⟨c0,c1,c2⟩ := HCY.out vs w' ((hpk 0 (by decide)).2 (by kernel_rfl)) hph;go_simp;refine zm1 hK ((.agg #[.int .i64 yi,.int .i64 ys,.int .i64 yz])) ?_;simp [frame38,Act.put, *]
    ·have e0 : X 0 = (.slice (some ⟨blk,0,none⟩) n cap) := zk3 (hF 0);go_simp;refine zm1 hK ((.slice (some ⟨blk,0,none⟩) n cap)) ?_;simp [frame38,Act.put, *]
    ·have e1 : X 1 = (.int .i64 (a : Nat)) := zk3 (hF 1);go_simp;refine zm1 hK ((.int .i64 (a : Nat))) ?_;simp [frame38,Act.put, *]
    ·have e10 : X 10 = (.int .i64 (i : Nat)) := zk3 (hF 10);go_simp;refine zm1 hK ((.int .i64 (i : Nat))) ?_;simp [frame38,Act.put, *]
    ·have e31 : X 31 = _ := zk2 (hI 31);have e32 : X 32 = _ := zk2 (hI 32);have q3 := HWP.out.1;go_simp;refine zm1 hK ((.int .i64 (p : Nat))) ?_;simp [frame38,Act.put, *]
    ·have e30 : X 30 = _ := zk2 (hI 30);have e33 : X 33 = _ := zk2 (hI 33);have q1 := HBD.out.1;have q2 := HBD.out.2.1;go_simp;refine zm1 hK ((.pointer (some ⟨blk,p * 3,none⟩))) ?_;simp [frame38,Act.put, *]
    ·have e34 : X 34 = _ := zk2 (hI 34);obtain ⟨c0,c1,c2⟩ := HCX.out vs w' ((hpk 0 (by decide)).2 (by kernel_rfl)) hph;go_simp;refine zm1 hK ((.agg #[.int .i64 xi,.int .i64 xs,.int .i64 xz])) ?_;simp [frame38,Act.put, *]
    ·have e16 : X 16 = _ := zk2 (hI 16);have e19 : X 19 = _ := zk2 (hI 19);have q1 := HBD.out.1;have q2 := HBD.out.2.1;go_simp;refine zm1 hK ((.pointer (some ⟨blk,p * 3,none⟩))) ?_;simp [frame38,Act.put, *]
    ·have e20 : X 20 = _ := zk2 (hI 20);have e23 : X 23 = _ := zk2 (hI 23);have q1 := HBD.out.2.2.1;have q2 := HBD.out.2.2.2;go_simp;refine zm1 hK ((.pointer (some ⟨blk,q * 3,none⟩))) ?_;simp [frame38,Act.put, *]
   ·intro i o ho hmi vs X w' hqi hql hph hX hI hF K hK;rcases vs with _ | ⟨v0,_ | ⟨v1,_⟩⟩
    ·obtain rfl : 21 = i := hqi;obtain rfl := Option.some.inj ho;have e29 : X 29 = _ := zk2 (hI 29);have e36 : X 36 = _ := zk2 (hI 36);obtain ⟨⟨⟨_,c0⟩,⟨_,c1⟩,⟨_,c2⟩⟩,zz⟩ := HS0.out w' hph;have z0 := zz (p * 3);have z1 := zz (p * 3 + 1);have z2 := zz (p * 3 + 2);unfold wpOp;simp only [ho];rw [if_pos (by rfl)];left;rw [frame38];go_simp;refine metK (hK.out undef _ (show PhXE wr blk p q ⟨xi,xs,xz⟩ ⟨yi,ys,yz⟩ [undef] _ from ⟨w',hph,zb⟩) trivial) ?_;simp [frame38,Act.put, *]
    ·obtain rfl : 23 = i := hqi;obtain rfl := Option.some.inj ho;have e35 : X 35 = _ := zk2 (hI 35);have e37 : X 37 = _ := zk2 (hI 37);obtain ⟨w1,hE1,hw1⟩ := id hph;obtain ⟨⟨⟨_,c0⟩,⟨_,c1⟩,⟨_,c2⟩⟩,zz⟩ := HS1.out w1 w' hE1 hw1
     skip
     have z0 := zz (q * 3);have z1 := zz (q * 3 + 1);have z2 := zz (q * 3 + 2);unfold wpOp;simp only [ho];rw [if_pos (by rfl)];left;rw [frame38];go_simp;refine metK (hK.out undef _ (show PhXE wr blk p q ⟨xi,xs,xz⟩ ⟨yi,ys,yz⟩ [v0,undef] _ from ⟨w1,w',hE1,hw1,zb⟩) trivial) ?_;simp [frame38,Act.put, *]
    ·simp at hql <;> omega
   ·intro vs X w' hlen hph hX hI;have e16 : X 16 = _ := zk4 (hI 16);have e17 : X 17 = _ := zk4 (hI 17);have e18 : X 18 = _ := zk4 (hI 18);have e19 : X 19 = _ := zk4 (hI 19);have e20 : X 20 = _ := zk4 (hI 20);have e21 : X 21 = _ := zk4 (hI 21);have e22 : X 22 = _ := zk4 (hI 22);have e23 : X 23 = _ := zk4 (hI 23);have e24 : X 24 = _ := zk4 (hI 24);have e25 : X 25 = _ := zk4 (hI 25);have e26 : X 26 = _ := zk4 (hI 26);have e27 : X 27 = _ := zk4 (hI 27);have e28 : X 28 = _ := zk4 (hI 28);have e29 : X 29 = _ := zk4 (hI 29);have e30 : X 30 = _ := zk4 (hI 30);have e31 : X 31 = _ := zk4 (hI 31);have e32 : X 32 = _ := zk4 (hI 32);have e33 : X 33 = _ := zk4 (hI 33);have e34 : X 34 = _ := zk4 (hI 34);have e35 : X 35 = _ := zk4 (hI 35);have e36 : X 36 = _ := zk4 (hI 36);have e37 : X 37 = _ := zk4 (hI 37);rcases vs with _ | ⟨v0,_ | ⟨v1,_ | ⟨vz,vs⟩⟩⟩
    ·simp at hlen
    ·simp at hlen
    rotate_left
    ·simp at hlen
    clear hX hI hlen;simp only [overF,List.foldl_cons,List.foldl_nil,List.setIfInBounds_toArray,List.set_cons_succ,List.set_cons_zero,e16,e17,e18,e19,e20,e21,e22,e23,e24,e25,e26,e27,e28,e29,e30,e31,e32,e33,e34,e35,e36,e37];obtain ⟨w1,w2,hE1,hE2,hE3⟩ := hph;clear e16 e17 e18 e19 e20 e21 e22 e23 e24 e25 e26 e27 e28 e29 e30 e31 e32 e33 e34 e35 e36 e37;have hr1 := ((HR.out.ext hE1).set p ⟨yi,ys,yz⟩).ext hE2;have hr2 := (hr1.set q ⟨xi,xs,xz⟩).ext hE3;have hk2 := (((HK.out.trans (Keeps.of_ext (X := fun b => b = blk) hE1)).trans (keeps_set3 w1 blk p ⟨yi,ys,yz⟩)).trans ((Keeps.of_ext (X := fun b => b = blk) hE2).trans (keeps_set3 w2 blk q ⟨xi,xs,xz⟩))).trans (Keeps.of_ext (X := fun b => b = blk) hE3);have HR2 := hide hr2;have HK2 := hide hk2;generalize w' = W6 at HR2 HK2 ⊢;have hwi := HWI.out;clear hr1 hr2 hk2 HCX HCY HS0 HS1 hE2 hE3;go_wp2
    go_roundw
    case rel => exact ⟨i + 1,by omega,by go_num,hide (by rw [swpR,HP.out.1,HP.out.2]; unfold swp; rw [HX0.out,HY0.out]; exact HR2.out),HK2.out⟩
    case measure => (simp [intOf]) <;> omega
  ·obtain rfl : i = k := (by omega);have HZ := hide (show RowE wr blk cap (swpR d a b i) /\ Keeps (fun q => q = blk) w wr from ⟨HR.out,HK.out⟩);clear HR HK;go_wp2;go_end0;exact ⟨rfl,HZ.out⟩
theorem swpR_get (d : Array EndD) (a b : Nat) : ∀ (k : Nat),a + k <= b -> b + k <= d.size -> ∀ t,(swpR d a b k)[t]! = if a <= t /\ t < a + k then d[t - a + b]! else if b <= t /\ t < b + k then d[t - b + a]! else d[t]!
 | 0,_,_,t => by
  rw [if_neg (by omega),if_neg (by omega)]
  rfl
 | k + 1,h1,h2,t => by
  have ih := swpR_get d a b k (by omega) (by omega);rw [swpR,swp_get _ (by rw [swpR_size]; omega) (by rw [swpR_size]; omega),ih,ih,ih]
  repeat' split
  all_goals first | rfl | (exfalso; omega) | (congr 1; omega)
theorem swpR_perm (d : Array EndD) (a b lo hi : Nat) : ∀ (k : Nat),lo <= a -> a + k <= b -> b + k <= hi -> hi <= d.size -> PermIn lo hi d (swpR d a b k)
 | 0,_,_,_,_ => permIn_refl d lo hi
 | k + 1,h1,h2,h3,h4 => by
  refine permIn_trans _ _ _ _ _ (swpR_perm d a b lo hi k h1 (by omega) (by omega) h4) ?_;exact swp_permIn _ _ _ _ _ (by omega) (by omega) (by omega) (by omega) (by rw [swpR_size]; exact h4)
def rotV (d : Array EndD) (a m b t : Nat) : EndD := if a <= t /\ t < a + (b - m) then d[t - a + m]! else if a + (b - m) <= t /\ t < b then d[t - (b - m)]! else d[t]!
theorem rotV_gt (d : Array EndD) (m i j : Nat) (hi : i <= m) (hij : j < i) (hs : m + j <= d.size) (t : Nat) : rotV (swpR d (m - i) m j) (m - (i - j)) m (m + j) t = rotV d (m - i) m (m + j) t := by
 unfold rotV;simp only [swpR_get d (m - i) m j (by omega) hs]
 repeat' split
 all_goals first | rfl | (exfalso; omega) | (congr 1; omega)
theorem rotV_lt (d : Array EndD) (m i j : Nat) (hi : i <= m) (hij : i < j) (hs : m + j <= d.size) (t : Nat) : rotV (swpR d (m - i) (m + j - i) i) (m - i) m (m + (j - i)) t = rotV d (m - i) m (m + j) t := by
 unfold rotV;simp only [swpR_get d (m - i) (m + j - i) i (by omega) (by omega)]
 repeat' split
 all_goals first | rfl | (exfalso; omega) | (congr 1; omega)
theorem rotV_eq (d : Array EndD) (m i : Nat) (hi : i <= m) (hs : m + i <= d.size) (t : Nat) : (swpR d (m - i) m i)[t]! = rotV d (m - i) m (m + i) t := by
 unfold rotV;rw [swpR_get d (m - i) m i (by omega) hs]
 repeat' split
 all_goals first | rfl | (exfalso; omega) | (congr 1; omega)
theorem rotE_any (blk n cap : Nat) (d : Array EndD) (a m b : Nat) (fv : Value) (w : World) (h : RowE w blk cap d) (hn : d.size = n) (ham : a < m) (hmb : m < b) (hbn : b <= n) (hn6 : n <= 1000000) :
  Calls Tryz.prog 167 #[.slice (some ⟨blk,0,none⟩) n cap,.int .i64 a,.int .i64 m,.int .i64 b,fv] w fun e w' => e = .returned (.tuple #[]) /\ ∃ d',RowE w' blk cap d' /\ PermIn a b d d' /\ (∀ t,d'[t]! = rotV d a m b t) /\ Keeps (fun q => q = blk) w w' := by
 have H := hide h;have hw1 : IntKind.i64.wrap ((m : Int) - (a : Int)) = ((m - a : Nat) : Int) := by rw [IntKind.wrap_i64]; omega
 have hw2 : IntKind.i64.wrap ((b : Int) - (m : Int)) = ((b - m : Nat) : Int) := by rw [IntKind.wrap_i64]; omega
 clear h
 go_enter Tryz.func167,Tryz.ntmps167
 go_wp2_with fail
 go_loopw [10,11] (fun v10 v11 wr => ∃ (i j : Nat) (d1 : Array EndD),0 < i /\ 0 < j /\ a <= m - i /\ i <= m /\ m + j <= b /\ v10 = .int .i64 i /\ v11 = .int .i64 j /\ Hid (RowE wr blk cap d1) /\ Hid (PermIn a b d d1) /\ Hid (∀ t,rotV d1 (m - i) m (m + j) t = rotV d a m b t) /\ Hid (Keeps (fun q => q = blk) w wr)) (fun i j _ => (intOf i).toNat + (intOf j).toNat)
 case atStart =>
  refine ⟨m - a,b - m,d,by omega,by omega,by omega,by omega,by omega,rfl,rfl,H.out,permIn_refl d a b,hide (fun t => ?_),Keeps.refl _ _⟩;rw [show m - (m - a) = a by omega,show m + (b - m) = b by omega]
 case round =>
  obtain ⟨i,j,d1,hi0,hj0,hai,him,hjb,rfl,rfl,hr,hp,hv,hk⟩ := hrel;generalize wr = w1 at *;have HR := hide hr.out;have HP := hide hp.out;have HV := hide hv.out;have HK := hide hk.out;have HD := hide (show d1.size = n from hp.out.1.trans hn);have hwl : IntKind.i64.wrap ((m : Int) - (i : Int)) = ((m - i : Nat) : Int) := by rw [IntKind.wrap_i64]; omega
  clear hr hp hv hk hw1 hw2;by_cases hne : i = j
  ·subst hne
   go_wp2_with fail
   refine (swapRE_any blk n cap d1 (m - i) m i fv w1 HR.out HD.out (by omega) (by omega) hn6).mono ?_;rintro e w5 ⟨rfl,hr5,hk5⟩;have HZ := hide (show ∃ d',RowE w5 blk cap d' /\ PermIn a b d d' /\ (∀ t,d'[t]! = rotV d a m b t) /\ Keeps (fun q => q = blk) w w5 from ⟨_,hr5,permIn_trans _ _ _ _ _ HP.out (swpR_perm d1 (m - i) m a b i hai (by omega) (by omega) (by rw [HD.out]; exact hbn)),fun t => by rw [rotV_eq d1 m i him (by rw [HD.out]; omega),HV.out],HK.out.trans hk5⟩);clear hr5 hk5;go_wp2;go_end0;exact ⟨rfl,HZ.out⟩
  ·have hnez : ((i : Int) != (j : Int)) = true := (by simp; omega);by_cases hgt : j < i
   ·have hgtz : (i : Int) > j := (by omega);have HWI := hide (show IntKind.i64.wrap ((i : Int) - (j : Int)) = ((i - j : Nat) : Int) by rw [IntKind.wrap_i64]; omega)
    go_wp2_with fail
    refine (swapRE_any blk n cap d1 (m - i) m j fv w1 HR.out HD.out (by omega) (by omega) hn6).mono ?_;rintro e w5 ⟨rfl,hr5,hk5⟩;have HR5 := hide hr5;have HK5 := hide (HK.out.trans hk5);have hwi := HWI.out;clear hr5 hk5;go_wp2
    go_roundw
    case rel =>
     refine ⟨i - j,j,swpR d1 (m - i) m j,by omega,hj0,by omega,by omega,hjb,by go_num,rfl,HR5.out,permIn_trans _ _ _ _ _ HP.out (swpR_perm d1 (m - i) m a b j hai (by omega) (by omega) (by rw [HD.out]; exact hbn)),hide (fun t => ?_),HK5.out⟩;rw [rotV_gt d1 m i j him hgt (by rw [HD.out]; omega)];exact HV.out t
    case measure => (simp [intOf]) <;> omega
   ·have hgtz : ¬ (i : Int) > j := (by omega);have HWI := hide (show IntKind.i64.wrap ((j : Int) - (i : Int)) = ((j - i : Nat) : Int) by rw [IntKind.wrap_i64]; omega);have hwa : IntKind.i64.wrap ((m : Int) + (j : Int)) = ((m + j : Nat) : Int) := (by rw [IntKind.wrap_i64]; omega);have hwb : IntKind.i64.wrap (((m + j : Nat) : Int) - (i : Int)) = ((m + j - i : Nat) : Int) := (by rw [IntKind.wrap_i64]; omega);obtain ⟨u,hu⟩ : ∃ u : Nat,m + j = u := ⟨_,rfl⟩;rw [hu] at hwa hwb;have HU := hide hu;clear hu
    go_wp2_with fail
    refine (swapRE_any blk n cap d1 (m - i) (u - i) i fv w1 HR.out HD.out (by have := HU.out; omega) (by have := HU.out; omega) hn6).mono ?_;rintro e w5 ⟨rfl,hr5,hk5⟩;have hu := HU.out;subst hu;have HR5 := hide hr5;have HK5 := hide (HK.out.trans hk5);have hwi := HWI.out;clear hr5 hk5 hwa hwb;go_wp2
    go_roundw
    case rel =>
     refine ⟨i,j - i,swpR d1 (m - i) (m + j - i) i,hi0,by omega,hai,him,by omega,rfl,by go_num,HR5.out,permIn_trans _ _ _ _ _ HP.out (swpR_perm d1 (m - i) (m + j - i) a b i hai (by omega) (by omega) (by rw [HD.out]; exact hbn)),hide (fun t => ?_),HK5.out⟩;rw [rotV_lt d1 m i j him (by omega) (by rw [HD.out]; omega)];exact HV.out t
    case measure => (simp [intOf]) <;> omega
end Go.Proofs.YtoaiakhnnfbkdaaGreatDoor
