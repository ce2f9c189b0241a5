import Derived.Test.YtoaiakhnnfbkdaaGreatDoorZsz
import Derived.StillTailTactics
set_option maxRecDepth 100000
set_option maxHeartbeats 32000000
namespace Go.Proofs.YtoaiakhnnfbkdaaGreatDoor
open Go.ChangeShapes Go.WideShapes Go.ChangeAt Go.RowKit Go.Lib Go.Shelf Go.Maps Go.Sort
theorem symE_last (blk n cap : Nat) (d : Array EndD) (a m b : Nat) (w : World) (h : RowE w blk cap d) (hn : d.size = n) (hm : m + 1 = b) (ham : a + 1 < m) (hbn : b <= n) (hn6 : n <= 1000000) (hs : SortedIn ltE a m d) :
  Calls Tryz.prog 158 #[.slice (some ⟨blk,0,none⟩) n cap,.int .i64 a,.int .i64 (m : Nat),.int .i64 b,.func (.func 95) #[] #[]] w fun e w' => e = .returned (.tuple #[]) /\ ∃ d',RowE w' blk cap d' /\ PermIn a b d d' /\ SortedIn ltE a b d' /\ Keeps (fun q => q = blk) w w' := by
 have H := hide h;have HS := hide hs;have hw0 : IntKind.i64.wrap ((m : Int) - (a : Int)) = ((m - a : Nat) : Int) := by rw [IntKind.wrap_i64]; omega
 have hw1 : IntKind.i64.wrap ((b : Int) - (m : Int)) = 1 := by rw [IntKind.wrap_i64]; omega
 have hne : (((m - a : Nat) : Int) == 1) = false := by rw [beq_eq_false_iff_ne]; omega
 have HMM := hide hm;have hmb : m < b := by omega
 clear h hs hm
 go_enter Tryz.func158,Tryz.ntmps158
 go_wp2_with fail
 go_loopw [14,15] (fun v14 v15 wr => ∃ i j : Nat,a <= i /\ i <= j /\ j <= m /\ v14 = .int .i64 i /\ v15 = .int .i64 j /\ Hid (Ext w wr) /\ Hid (∀ t,a <= t -> t < i -> ltE d[m]! d[t]! = false) /\ Hid (∀ t,j <= t -> t < m -> ltE d[m]! d[t]! = true)) (fun i j _ => (intOf j).toNat - (intOf i).toNat)
 case atStart => exact ⟨a,m,Nat.le_refl _,by omega,Nat.le_refl _,rfl,rfl,zb,hide (fun t h1 h2 => by omega),hide (fun t h1 h2 => by omega)⟩
 case round =>
  obtain ⟨i,j,hi,hij,hj,rfl,rfl,hx,h1,h2⟩ := hrel;have HX := hide hx.out;have H1 := hide h1.out;have H2 := hide h2.out;clear hx h1 h2 hw1 hw0 hne;by_cases hlt : i < j
  ·have hltz : (i : Int) < j := (by omega);have hws : IntKind.i64.wrap ((i : Int) + (j : Int)) = ((i + j : Nat) : Int) := (by rw [IntKind.wrap_i64]; omega);obtain ⟨hh,hhh⟩ : ∃ hh : Nat,(i + j) / 2 = hh := ⟨_,rfl⟩;have hhz : ((i : Int) + (j : Int)) / 2 = (hh : Int) := (by omega);have hb1 : i <= hh /\ hh < j := (by omega);have hbz : (0 : Int) <= hh /\ (hh : Int) < n /\ (0 : Int) <= m /\ (m : Int) < n := (by omega);obtain ⟨bz1,bz2,bz3,bz4⟩ := hbz;have hwh : IntKind.i64.wrap ((hh : Int) + 1) = ((hh + 1 : Nat) : Int) := by rw [IntKind.wrap_i64]; omega
   go_upto_region 17 with (fail)
   have hE : Ext wr wr.drew := (Below.refl wr.heap.size wr).drew;have hcu := (H.out.ext (Ext.trans HX.out hE)).cell m (by omega);have hcv := (H.out.ext (Ext.trans HX.out hE)).cell hh (by omega);obtain ⟨x,hx⟩ : ∃ x,d[m]! = x := ⟨_,rfl⟩;obtain ⟨y,hy⟩ : ∃ y,d[hh]! = y := ⟨_,rfl⟩;rw [hx] at hcu;rw [hy] at hcv;obtain ⟨xi,xs,xz⟩ := x;obtain ⟨yi,ys,yz⟩ := y;have hcl := (cmpE_ext ⟨xi,xs,xz⟩ ⟨yi,ys,yz⟩ wr.drew).mono (R' := fun e w' => ∃ z : Int,e = .returned (.int .i64 z) /\ decide (z < 0) = ltE d[m]! d[hh]! /\ Ext wr.drew w') fun e w' ⟨z,h1,h2,h3⟩ => ⟨z,h1,by rw [hx,hy]; exact h2,h3⟩;have HCL := hide hcl;have HE := hide hE;obtain ⟨u0,u1,u2⟩ := hcu;obtain ⟨v0,v1,v2⟩ := hcv;have u0 : wr.drew.cell? ⟨blk,m * 3,none⟩ = some (.int .i64 xi) := u0;have u1 : wr.drew.cell? ⟨blk,m * 3 + 1,none⟩ = some (.int .i64 xs) := u1;have u2 : wr.drew.cell? ⟨blk,m * 3 + 2,none⟩ = some (.int .i64 xz) := u2;have v0 : wr.drew.cell? ⟨blk,hh * 3,none⟩ = some (.int .i64 yi) := v0;have v1 : wr.drew.cell? ⟨blk,hh * 3 + 1,none⟩ = some (.int .i64 ys) := v1;have v2 : wr.drew.cell? ⟨blk,hh * 3 + 2,none⟩ = some (.int .i64 yz) := v2;clear hcl hE hx hy
   go_still_tail 9,(by kernel_rfl)
   change wpList _ _ _ _ _ wr.drew;generalize wr.drew = w2 at HCL HE u0 u1 u2 v0 v1 v2 ⊢
   go_wp2_with fail
   refine HCL.out.mono ?_;rintro e w3 ⟨z,rfl,hz,E3⟩;have HX3 := hide (Ext.trans (Ext.trans HX.out HE.out) E3);have HZ := hide hz;clear hz E3 HCL u0 u1 u2 v0 v1 v2;by_cases hl : ltE d[m]! d[hh]! = true
   ·have hzl : z < 0 := (by have := HZ.out; rw [hl] at this; simpa using this);clear HZ;go_wp2
    go_roundw
    case rel =>
     refine ⟨i,hh,hi,by omega,by omega,rfl,rfl,HX3.out,H1.out,hide (fun t t1 t2 => ?_)⟩;rcases Nat.lt_or_ge t j with e2 | e2
     ·have k := sortedIn_le swoE HS.out (i := hh) (j := t) (by omega) t1 t2
      cases k2 : ltE d[m]! d[t]! with
      | true => rfl
      | false => exact absurd (hl.symm.trans (swoE.ntrans _ _ _ k2 k)) (by decide)
     ·exact H2.out t e2 t2
    case measure => (simp [intOf]) <;> omega
   ·have hl : ltE d[m]! d[hh]! = false := (by simpa using hl);have hzl : ¬ z < 0 := (by have := HZ.out; rw [hl] at this; simpa using this);have hzb : (!decide (z < 0)) = true := (by simp; omega);clear HZ;go_wp2
    go_roundw
    case rel =>
     refine ⟨hh + 1,j,by omega,by omega,hj,by go_num,rfl,HX3.out,hide (fun t t1 t2 => ?_),H2.out⟩;exact swoE.ntrans _ _ _ hl (sortedIn_le swoE HS.out (i := t) (j := hh) t1 (by omega) (by omega))
    case measure => (simp [intOf]) <;> omega
  ·obtain rfl : i = j := (by omega);have H0 := hide (H.out.ext HX.out);clear hlt
   go_wp2_with fail
   go_loopw [17] (fun v17 w1 => ∃ (p : Nat) (d1 : Array EndD),i <= p /\ p <= m /\ v17 = .int .i64 p /\ Hid (RowE w1 blk cap d1) /\ Hid (PermIn a b d d1) /\ Hid (∀ t,d1[t]! = if p < t /\ t <= m then d[t - 1]! else if t = p then d[m]! else d[t]!) /\ Hid (Keeps (fun q => q = blk) w w1)) (fun p _ => (intOf p).toNat)
   case atStart =>
    refine ⟨m,d,hj,Nat.le_refl _,rfl,H0.out,permIn_refl d a b,hide (fun t => ?_),Keeps.of_ext HX.out⟩;rw [if_neg (by omega)];by_cases e : t = m
    ·rw [if_pos e,e]
    ·rw [if_neg e]
   case round =>
    obtain ⟨p,d1,hp1,hp2,rfl,hr,hp,hv,hk⟩ := hrel;generalize wr = w1 at *;have HR := hide hr.out;have HP := hide hp.out;have HV := hide hv.out;have HK := hide hk.out;have hds : d1.size = n := hp.out.1.trans hn;clear hr hp hv hk H0;by_cases hlp : i < p
    ·have hlz : (p : Int) > (i : Int) := (by omega);obtain ⟨q,hq⟩ : ∃ q,p - 1 = q := ⟨_,rfl⟩;have HQ := hide hq;have hwp : IntKind.i64.wrap ((p : Int) - 1) = (q : Int) := (by rw [IntKind.wrap_i64]; omega);have HWP := hide hwp;have hpd : p < d1.size := (by omega);have hqd : q < d1.size := (by omega);have HBD := hide (show (0 : Int) <= p /\ (p : Int) < n /\ (0 : Int) <= q /\ (q : Int) < n by omega);have hcx := HR.out.cell p hpd;have hcy := HR.out.cell q hqd;obtain ⟨x,hx⟩ : ∃ x,d1[p]! = x := ⟨_,rfl⟩;obtain ⟨y,hy⟩ : ∃ y,d1[q]! = y := ⟨_,rfl⟩;rw [hx] at hcx;rw [hy] at hcy;have HX0 := hide hx;have HY0 := hide hy;obtain ⟨xi,xs,xz⟩ := x;obtain ⟨yi,ys,yz⟩ := y;have hup : ∀ {w' : World} {j : Nat},Ext w1 w' -> w'.cell? ⟨blk,j,none⟩ = w1.cell? ⟨blk,j,none⟩ := fun h => h.cell HR.out.lt
     have hxx : ∀ vs w',vs.length <= 0 -> PhXE w1 blk p q ⟨xi,xs,xz⟩ ⟨yi,ys,yz⟩ vs w' -> w'.cell? ⟨blk,p * 3,none⟩ = some (.int .i64 xi) /\ w'.cell? ⟨blk,p * 3 + 1,none⟩ = some (.int .i64 xs) /\ w'.cell? ⟨blk,p * 3 + 2,none⟩ = some (.int .i64 xz) := fun vs w' hn h => by
      rcases vs with _ | ⟨u,vs⟩
      ·rw [hup h,hup h,hup h]; exact hcx
      ·simp at hn
     have hxy : ∀ vs w',vs.length <= 0 -> PhXE w1 blk p q ⟨xi,xs,xz⟩ ⟨yi,ys,yz⟩ vs w' -> w'.cell? ⟨blk,q * 3,none⟩ = some (.int .i64 yi) /\ w'.cell? ⟨blk,q * 3 + 1,none⟩ = some (.int .i64 ys) /\ w'.cell? ⟨blk,q * 3 + 2,none⟩ = some (.int .i64 yz) := fun vs w' hn h => by
      rcases vs with _ | ⟨u,vs⟩
      ·rw [hup h,hup h,hup h]; exact hcy
      ·simp at hn
     have hs0 : ∀ w',Ext w1 w' -> ((∃ u,w'.cell? ⟨blk,p * 3,none⟩ = some u) /\ (∃ u,w'.cell? ⟨blk,p * 3 + 1,none⟩ = some u) /\ ∃ u,w'.cell? ⟨blk,p * 3 + 2,none⟩ = some u) /\ ∀ o,w'.frozen? ⟨blk,o,none⟩ = false := fun w' h => by
      obtain ⟨c0,c1,c2⟩ := (HR.out.ext h).cell p hpd;exact ⟨⟨⟨_,c0⟩,⟨_,c1⟩,⟨_,c2⟩⟩,(HR.out.ext h).frozen⟩
     have hs1 : ∀ w2 w',Ext w1 w2 -> Ext (set3 w2 blk p (⟨yi,ys,yz⟩ : EndD)) w' -> ((∃ u,w'.cell? ⟨blk,q * 3,none⟩ = some u) /\ (∃ u,w'.cell? ⟨blk,q * 3 + 1,none⟩ = some u) /\ ∃ u,w'.cell? ⟨blk,q * 3 + 2,none⟩ = some u) /\ ∀ o,w'.frozen? ⟨blk,o,none⟩ = false := fun w2 w' h k => by
      have h2 := ((HR.out.ext h).set p ⟨yi,ys,yz⟩).ext k;obtain ⟨c0,c1,c2⟩ := h2.cell q (by rw [Array.size_setIfInBounds]; exact hqd);exact ⟨⟨⟨_,c0⟩,⟨_,c1⟩,⟨_,c2⟩⟩,h2.frozen⟩
     have HCX := hide hxx;have HCY := hide hxy;have HS0 := hide hs0;have HS1 := hide hs1;clear hcx hcy hx hy hup hxx hxy hs0 hs1
     go_upto_region 23 with (fail)
     refine wp_region_rw 220 [15,17] [113,114,115,116,117,118,119,120,121,122,123,124,125,126,127,128] (PhXE w1 blk p q ⟨xi,xs,xz⟩ ⟨yi,ys,yz⟩) (fun (t : Nat) (wI : World) (v : Value) => match t with | 113 => v = (.slice (some ⟨blk,0,none⟩) n cap) | 114 => v = (.int .i64 (p : Nat)) | 115 => v = (.slice (some ⟨blk,0,none⟩) n cap) | 116 => v = (.int .i64 (p : Nat)) | 117 => v = (.int .i64 (q : Nat)) | 118 => v = (.slice (some ⟨blk,0,none⟩) n cap) | 119 => v = (.int .i64 (p : Nat)) | 120 => v = (.int .i64 (q : Nat)) | 121 => v = (.pointer (some ⟨blk,q * 3,none⟩)) | 122 => v = (.agg #[.int .i64 yi,.int .i64 ys,.int .i64 yz]) | 123 => v = (.slice (some ⟨blk,0,none⟩) n cap) | 124 => v = (.int .i64 (p : Nat)) | 125 => v = (.pointer (some ⟨blk,p * 3,none⟩)) | 126 => v = (.agg #[.int .i64 xi,.int .i64 xs,.int .i64 xz]) | 127 => v = (.pointer (some ⟨blk,p * 3,none⟩)) | 128 => v = (.pointer (some ⟨blk,q * 3,none⟩)) | _ => True) (fun _ _ => True) (by kernel_rfl) rfl (by kernel_rfl) (by kernel_rfl) (by kernel_rfl) (by kernel_rfl) ?_ ?_ ?_ ?_ ?_ ?_ ?_
     ·intro w' w'' h;trivial
     ·intro t w' w'' v hR hv;exact hv
     ·intro vs w' w'' h e;exact PhXE.ext h e
     ·exact zb.drew
     ·intro i o ho hmi vs X w' hpk hph hX hI hF K hK;have hin : i < 18 := (zg ho);rcases zo hin with rfl | rfl | rfl | rfl | rfl | rfl | rfl | rfl | rfl | rfl | rfl | rfl | rfl | rfl | rfl | rfl | rfl | rfl
      all_goals first | (exact absurd hmi (by decide)) | (obtain rfl := Option.some.inj ho; unfold wpOp; simp only [ho]; rw [if_pos (by rfl)]; left; rw [frame220])
      ·have e0 : X 0 = (.slice (some ⟨blk,0,none⟩) n cap) := zk3 (hF 0);go_simp;refine zm1 hK ((.slice (some ⟨blk,0,none⟩) n cap)) ?_;simp [frame220,Act.put, *]
      ·have e17 : X 17 = (.int .i64 (p : Nat)) := zk3 (hF 17);go_simp;refine zm1 hK ((.int .i64 (p : Nat))) ?_;simp [frame220,Act.put, *]
      ·have e0 : X 0 = (.slice (some ⟨blk,0,none⟩) n cap) := zk3 (hF 0);go_simp;refine zm1 hK ((.slice (some ⟨blk,0,none⟩) n cap)) ?_;simp [frame220,Act.put, *]
      ·have e17 : X 17 = (.int .i64 (p : Nat)) := zk3 (hF 17);go_simp;refine zm1 hK ((.int .i64 (p : Nat))) ?_;simp [frame220,Act.put, *]
      ·have e116 : X 116 = _ := zk2 (hI 116);have q3 := HWP.out;go_simp;refine zm1 hK ((.int .i64 (q : Nat))) ?_;simp [frame220,Act.put, *]
      ·have e0 : X 0 = (.slice (some ⟨blk,0,none⟩) n cap) := zk3 (hF 0);go_simp;refine zm1 hK ((.slice (some ⟨blk,0,none⟩) n cap)) ?_;simp [frame220,Act.put, *]
      ·have e17 : X 17 = (.int .i64 (p : Nat)) := zk3 (hF 17);go_simp;refine zm1 hK ((.int .i64 (p : Nat))) ?_;simp [frame220,Act.put, *]
      ·have e119 : X 119 = _ := zk2 (hI 119);have q3 := HWP.out;go_simp;refine zm1 hK ((.int .i64 (q : Nat))) ?_;simp [frame220,Act.put, *]
      ·have e118 : X 118 = _ := zk2 (hI 118);have e120 : X 120 = _ := zk2 (hI 120);have q1 := HBD.out.2.2.1;have q2 := HBD.out.2.2.2;go_simp;refine zm1 hK ((.pointer (some ⟨blk,q * 3,none⟩))) ?_;simp [frame220,Act.put, *]
      ·have e121 : X 121 = _ := zk2 (hI 121);obtain ⟨c0,c1,c2⟩ := HCY.out vs w' ((hpk 0 (by decide)).2 (by kernel_rfl)) hph;go_simp;refine zm1 hK ((.agg #[.int .i64 yi,.int .i64 ys,.int .i64 yz])) ?_;simp [frame220,Act.put, *]
      ·have e0 : X 0 = (.slice (some ⟨blk,0,none⟩) n cap) := zk3 (hF 0);go_simp;refine zm1 hK ((.slice (some ⟨blk,0,none⟩) n cap)) ?_;simp [frame220,Act.put, *]
      ·have e17 : X 17 = (.int .i64 (p : Nat)) := zk3 (hF 17);go_simp;refine zm1 hK ((.int .i64 (p : Nat))) ?_;simp [frame220,Act.put, *]
      ·have e123 : X 123 = _ := zk2 (hI 123);have e124 : X 124 = _ := zk2 (hI 124);have q1 := HBD.out.1;have q2 := HBD.out.2.1;go_simp;refine zm1 hK ((.pointer (some ⟨blk,p * 3,none⟩))) ?_;simp [frame220,Act.put, *]
      ·have e125 : X 125 = _ := zk2 (hI 125);obtain ⟨c0,c1,c2⟩ := HCX.out vs w' ((hpk 0 (by decide)).2 (by kernel_rfl)) hph;go_simp;refine zm1 hK ((.agg #[.int .i64 xi,.int .i64 xs,.int .i64 xz])) ?_;simp [frame220,Act.put, *]
      ·have e113 : X 113 = _ := zk2 (hI 113);have e114 : X 114 = _ := zk2 (hI 114);have q1 := HBD.out.1;have q2 := HBD.out.2.1;go_simp;refine zm1 hK ((.pointer (some ⟨blk,p * 3,none⟩))) ?_;simp [frame220,Act.put, *]
      ·have e115 : X 115 = _ := zk2 (hI 115);have e117 : X 117 = _ := zk2 (hI 117);have q1 := HBD.out.2.2.1;have q2 := HBD.out.2.2.2;go_simp;refine zm1 hK ((.pointer (some ⟨blk,q * 3,none⟩))) ?_;simp [frame220,Act.put, *]
     ·intro i o ho hmi vs X w' hqi hql hph hX hI hF K hK;rcases vs with _ | ⟨v0,_ | ⟨v1,_⟩⟩
      ·obtain rfl : 15 = i := hqi;obtain rfl := Option.some.inj ho;have e122 : X 122 = _ := zk2 (hI 122);have e127 : X 127 = _ := zk2 (hI 127);obtain ⟨⟨⟨_,c0⟩,⟨_,c1⟩,⟨_,c2⟩⟩,zz⟩ := HS0.out w' hph;have z0 := zz (p * 3);have z1 := zz (p * 3 + 1);have z2 := zz (p * 3 + 2);unfold wpOp;simp only [ho];rw [if_pos (by rfl)];left;rw [frame220];go_simp;refine metK (hK.out undef _ (show PhXE w1 blk p q ⟨xi,xs,xz⟩ ⟨yi,ys,yz⟩ [undef] _ from ⟨w',hph,zb⟩) trivial) ?_;simp [frame220,Act.put, *]
      ·obtain rfl : 17 = i := hqi;obtain rfl := Option.some.inj ho;have e126 : X 126 = _ := zk2 (hI 126);have e128 : X 128 = _ := zk2 (hI 128);obtain ⟨w2,hE1,hw1⟩ := id hph;obtain ⟨⟨⟨_,c0⟩,⟨_,c1⟩,⟨_,c2⟩⟩,zz⟩ := HS1.out w2 w' hE1 hw1;have z0 := zz (q * 3);have z1 := zz (q * 3 + 1);have z2 := zz (q * 3 + 2);unfold wpOp;simp only [ho];rw [if_pos (by rfl)];left;rw [frame220];go_simp;refine metK (hK.out undef _ (show PhXE w1 blk p q ⟨xi,xs,xz⟩ ⟨yi,ys,yz⟩ [v0,undef] _ from ⟨w2,w',hE1,hw1,zb⟩) trivial) ?_;simp [frame220,Act.put, *]
      ·simp at hql <;> omega
     ·intro vs X w' hlen hph hX hI;have e113 : X 113 = _ := zk4 (hI 113);have e114 : X 114 = _ := zk4 (hI 114);have e115 : X 115 = _ := zk4 (hI 115);have e116 : X 116 = _ := zk4 (hI 116);have e117 : X 117 = _ := zk4 (hI 117);have e118 : X 118 = _ := zk4 (hI 118);have e119 : X 119 = _ := zk4 (hI 119);have e120 : X 120 = _ := zk4 (hI 120);have e121 : X 121 = _ := zk4 (hI 121);have e122 : X 122 = _ := zk4 (hI 122);have e123 : X 123 = _ := zk4 (hI 123);have e124 : X 124 = _ := zk4 (hI 124);have e125 : X 125 = _ := zk4 (hI 125);have e126 : X 126 = _ := zk4 (hI 126);have e127 : X 127 = _ := zk4 (hI 127);have e128 : X 128 = _ := zk4 (hI 128);rcases vs with _ | ⟨v0,_ | ⟨v1,_ | ⟨vz,vs⟩⟩⟩
      ·simp at hlen
      ·simp at hlen
      rotate_left
      ·simp at hlen
      clear hX hI hlen;simp only [overF,List.foldl_cons,List.foldl_nil,List.setIfInBounds_toArray,List.set_cons_succ,List.set_cons_zero,e113,e114,e115,e116,e117,e118,e119,e120,e121,e122,e123,e124,e125,e126,e127,e128];obtain ⟨w2,w3,hE1,hE2,hE3⟩ := hph;clear e113 e114 e115 e116 e117 e118 e119 e120 e121 e122 e123 e124 e125 e126 e127 e128;have hr2 := ((((HR.out.ext hE1).set p ⟨yi,ys,yz⟩).ext hE2).set q ⟨xi,xs,xz⟩).ext hE3;have hk2 := (((HK.out.trans (Keeps.of_ext (X := fun b => b = blk) hE1)).trans (keeps_set3 w2 blk p ⟨yi,ys,yz⟩)).trans ((Keeps.of_ext (X := fun b => b = blk) hE2).trans (keeps_set3 w3 blk q ⟨xi,xs,xz⟩))).trans (Keeps.of_ext (X := fun b => b = blk) hE3);have hr3 : RowE w' blk cap (swp d1 p q) := (by unfold swp; rw [HX0.out,HY0.out]; exact hr2);have HR2 := hide hr3;have HK2 := hide hk2;generalize w' = W6 at HR2 HK2 ⊢;clear hr2 hr3 hk2 HCX HCY HS0 HS1 hE1 hE2 hE3;have hwp := HWP.out;go_wp2
      go_roundw
      case rel =>
       have hq := HQ.out;subst hq;refine ⟨p - 1,swp d1 p (p - 1),by omega,by omega,by go_num,HR2.out,permIn_trans _ _ _ _ _ HP.out (swp_permIn _ _ _ _ _ (by omega) (by omega) (by omega) (by omega) (by omega)),hide (fun t => ?_),HK2.out⟩;rw [swp_get d1 hpd hqd,HV.out,HV.out,HV.out]
       repeat' split
       all_goals first | rfl | (exfalso; omega) | (congr 1; omega)
      case measure => (simp [intOf]) <;> omega
    ·obtain rfl : p = i := (by omega);have HZ := hide (show ∃ d',RowE w1 blk cap d' /\ PermIn a b d d' /\ SortedIn ltE a b d' /\ Keeps (fun q => q = blk) w w1 from ⟨d1,HR.out,HP.out,by rw [<- HMM.out]; exact ins_last swoE hi hp2 HS.out H1.out H2.out HV.out,HK.out⟩);clear hlp HR HP HV HK;go_wp2
     (try simp only [Exit.inBlock,Exit.then])
     refine bodyPost_ret (results_none rfl _ _ _) rfl ?_;exact ⟨rfl,HZ.out⟩
end Go.Proofs.YtoaiakhnnfbkdaaGreatDoor
