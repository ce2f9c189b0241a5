import Derived.Test.YtoaiakhnnfbkdaaGreatDoorSyE
import Derived.Deep.CutRange
import Derived.StillTailTactics
set_option maxRecDepth 100000
set_option maxHeartbeats 32000000
namespace Go.Proofs.YtoaiakhnnfbkdaaGreatDoor
open Go.ChangeShapes Go.WideShapes Go.ChangeAt Go.RowKit Go.Lib Go.Shelf Go.Maps Go.Sort
section
variable {lt : EndD -> EndD -> Bool} {a m b mid start : Nat} {d d1 d2 d3 : Array EndD}
theorem rotV_same (h : start = m \/ m = mid + m - start) (h1 : start <= mid) (t : Nat) : d[t]! = rotV d start m (mid + m - start) t := by
 unfold rotV;by_cases e1 : start <= t /\ t < start + (mid + m - start - m)
 ·rw [if_pos e1];congr 1;omega
 ·rw [if_neg e1];by_cases e2 : start + (mid + m - start - m) <= t /\ t < mid + m - start
  ·rw [if_pos e2];congr 1;omega
  ·rw [if_neg e2]
theorem SymCut.left (c : SymCut lt a m b mid start d) (h : SWO lt) (ham : a < m) (hmb : m < b) (s1 : SortedIn lt a m d) (s2 : SortedIn lt m b d) (hd : ∀ t,d1[t]! = rotV d start m (mid + m - start) t) (hn : ¬ (a < start /\ start < mid)) : SortedIn lt a mid d1 := by
 obtain ⟨b1,b2,b3,b4,b5,b6,b7,b8⟩ := c.bd ham hmb;obtain ⟨t1,t2,-,-,-⟩ := c.turned h ham hmb s1 s2 hd;by_cases e : a < start
 ·rwa [show mid = start by omega]
 ·rwa [show a = start by omega]
theorem SymCut.right (c : SymCut lt a m b mid start d) (h : SWO lt) (ham : a < m) (hmb : m < b) (s1 : SortedIn lt a m d) (s2 : SortedIn lt m b d) (hd : ∀ t,d1[t]! = rotV d start m (mid + m - start) t) (hn : ¬ (mid < mid + m - start /\ mid + m - start < b)) : SortedIn lt mid b d1 := by
 obtain ⟨b1,b2,b3,b4,b5,b6,b7,b8⟩ := c.bd ham hmb;obtain ⟨-,-,t1,t2,-⟩ := c.turned h ham hmb s1 s2 hd;generalize mid + m - start = en at *;by_cases e : mid < en
 ·rwa [show b = en by omega]
 ·rwa [show mid = en by omega]
theorem sorted_past {x y : Nat} (p : PermIn a mid d1 d2) (h : mid <= x) (s : SortedIn lt x y d1) : SortedIn lt x y d2 := by
 intro i j hi hij hj;rw [p.2.1 i (.inr (by omega)),p.2.1 j (.inr (by omega))];exact s i j hi hij hj
theorem SymCut.done (c : SymCut lt a m b mid start d) (h : SWO lt) (ham : a < m) (hmb : m < b) (hb : b <= d.size) (s1 : SortedIn lt a m d) (s2 : SortedIn lt m b d) (p0 : PermIn a b d d1) (hd : ∀ t,d1[t]! = rotV d start m (mid + m - start) t) (p1 : PermIn a mid d1 d2) (q1 : SortedIn lt a mid d2) (p2 : PermIn mid b d2 d3) (q2 : SortedIn lt mid b d3) : PermIn a b d d3 /\ SortedIn lt a b d3 := by
 obtain ⟨b1,b2,b3,b4,b5,b6,b7,b8⟩ := c.bd ham hmb;obtain ⟨-,-,-,-,t5⟩ := c.turned h ham hmb s1 s2 hd;have z1 : d1.size = d.size := p0.1;have z2 : d2.size = d.size := p1.1.trans z1;exact ⟨permIn_trans _ _ _ _ _ p0 (permIn_trans _ _ _ _ _ (permIn_mono _ _ a mid a b (Nat.le_refl _) (by omega) (by omega) p1) (permIn_mono _ _ mid b a b (by omega) (Nat.le_refl _) (by omega) p2)),sym_join b7 (by omega) (by omega) t5 p1 q1 p2 q2⟩
theorem sym_up {pp t hh : Nat} (h : SWO lt) (s1 : SortedIn lt a m d) (s2 : SortedIn lt m b d) (h1 : a <= t) (h2 : t <= hh) (h3 : hh < m) (h4 : m <= pp - hh) (h5 : pp - t < b) (hl : lt d[pp - hh]! d[hh]! = false) : lt d[pp - t]! d[t]! = false :=
 h.ntrans _ _ _ (h.ntrans _ _ _ (sortedIn_le h s2 h4 (by omega) h5) hl) (sortedIn_le h s1 h1 h2 h3)
end
theorem symE_any (blk n cap : Nat) (hn6 : n <= 1000000) : ∀ (N : Nat) (d : Array EndD) (a m b : Nat) (w : World) (h : RowE w blk cap d) (hn : d.size = n) (hN : b - a <= N) (ham : a < m) (hmb : m < b) (hbn : b <= n) (hs1 : SortedIn ltE a m d) (hs2 : SortedIn ltE m b d),
  Calls Tryz.prog 158 #[.slice (some ⟨blk,0,none⟩) n cap,.int .i64 a,.int .i64 (m : Nat),.int .i64 b,.func (.func 95) #[] #[]] w fun e w' => e = .returned (.tuple #[]) /\ ∃ d',RowE w' blk cap d' /\ PermIn a b d d' /\ SortedIn ltE a b d' /\ Keeps (fun q => q = blk) w w' := by
 intro N
 induction N with
 | zero => intros; omega
 | succ N ih =>
 intro d a m b w h hn hN ham hmb hbn hs1 hs2;by_cases k1 : a + 1 = m
 ·exact symE_first blk n cap d a m b w h hn k1 hmb hbn hn6 hs2
 by_cases k2 : m + 1 = b
 ·exact symE_last blk n cap d a m b w h hn k2 (by omega) hbn hn6 hs1
 have H := hide h;have S1 := hide hs1;have S2 := hide hs2;have IH := hide ih;clear h hs1 hs2 ih;have HN := hide hN;clear hN;have HMB := hide (show a + 1 < m /\ m + 1 < b by omega);have hw0 : IntKind.i64.wrap ((m : Int) - (a : Int)) = ((m - a : Nat) : Int) := by rw [IntKind.wrap_i64]; omega
 have hw1 : IntKind.i64.wrap ((b : Int) - (m : Int)) = ((b - m : Nat) : Int) := by rw [IntKind.wrap_i64]; omega
 have hne0 : (((m - a : Nat) : Int) == 1) = false := by rw [beq_eq_false_iff_ne]; omega
 have hne1 : (((b - m : Nat) : Int) == 1) = false := by rw [beq_eq_false_iff_ne]; omega
 have hws : IntKind.i64.wrap ((a : Int) + (b : Int)) = ((a + b : Nat) : Int) := by rw [IntKind.wrap_i64]; omega
 obtain ⟨mid,hmid⟩ : ∃ mid : Nat,mid = (a + b) / 2 := ⟨_,rfl⟩;have hmz : ((a : Int) + (b : Int)) / 2 = (mid : Int) := by omega
 obtain ⟨u,hu⟩ : ∃ u : Nat,mid + m = u := ⟨_,rfl⟩;have hwu : IntKind.i64.wrap ((mid : Int) + (m : Int)) = (u : Int) := by rw [IntKind.wrap_i64]; omega
 have HU := hide hu;have HM := hide hmid;clear hu hmid k1 k2;obtain ⟨lo,hlo⟩ : ∃ lo : Nat,lo = if m > mid then mid + m - b else a := ⟨_,rfl⟩;obtain ⟨hi,hhi⟩ : ∃ hi : Nat,hi = if m > mid then mid else m := ⟨_,rfl⟩;have HLO := hide hlo;have HHI := hide hhi;clear hlo hhi
 go_enter Tryz.func158,Tryz.ntmps158
 go_upto_if 140 with (fail)
 go_cut [20,21] from 140 to 146 (fun s20 s21 w' => s20 = .int .i64 lo /\ s21 = .int .i64 hi /\ w = w')
 case first =>
  have hm := HM.out;have hu := HU.out;by_cases e : m > mid
  ·have ez : (m : Int) > (mid : Int) := (by omega);have hlo := HLO.out;have hhi := HHI.out;rw [if_pos e] at hlo hhi;have hwn : IntKind.i64.wrap ((u : Int) - (b : Int)) = (lo : Int) := (by rw [IntKind.wrap_i64]; omega);clear hm hu hlo;go_wp2
   go_meet
   case rel => exact ⟨rfl,by rw [hhi],rfl⟩
  ·have ez : ¬ (m : Int) > (mid : Int) := (by omega);have hlo := HLO.out;have hhi := HHI.out;rw [if_neg e] at hlo hhi;clear hm hu;go_wp2
   go_meet
   case rel => exact ⟨by rw [hlo],by rw [hhi],rfl⟩
 case rest =>
 obtain ⟨rfl,rfl,rfl⟩ := hcut;obtain ⟨pp,hpp⟩ : ∃ pp,u - 1 = pp := ⟨_,rfl⟩
 have hbd : lo <= hi /\ ∀ c,lo <= c -> c < hi -> a <= c /\ c < m /\ m <= pp - c /\ pp - c < b /\ c <= pp := by
  have hm := HM.out;have hu := HU.out;have hlo := HLO.out;have hhi := HHI.out;by_cases e : m > mid
  ·rw [if_pos e] at hlo hhi;exact ⟨by omega,fun c h1 h2 => by omega⟩
  ·rw [if_neg e] at hlo hhi;exact ⟨by omega,fun c h1 h2 => by omega⟩
 have him : hi <= m := by
  have hhi := HHI.out;by_cases e : m > mid
  ·rw [if_pos e] at hhi;omega
  ·rw [if_neg e] at hhi;omega
 have HB := hide hbd;have hwp : IntKind.i64.wrap ((u : Int) - 1) = (pp : Int) := by have hu := HU.out; rw [IntKind.wrap_i64]; omega
 have HP := hide hpp;clear hbd hpp
 go_wp2_with fail
 go_loopw [20,21] (fun v20 v21 wr => ∃ i j : Nat,lo <= i /\ i <= j /\ j <= hi /\ v20 = .int .i64 i /\ v21 = .int .i64 j /\ Hid (Ext w wr) /\ Hid (∀ c,lo <= c -> c < i -> ltE d[pp - c]! d[c]! = false) /\ Hid (∀ c,j <= c -> c < hi -> ltE d[pp - c]! d[c]! = true)) (fun i j _ => (intOf j).toNat - (intOf i).toNat)
 case atStart => exact ⟨lo,hi,Nat.le_refl _,HB.out.1,Nat.le_refl _,rfl,rfl,zb,hide (fun t h1 h2 => by omega),hide (fun t h1 h2 => by omega)⟩
 case round =>
  obtain ⟨i,j,hi0,hij,hj,rfl,rfl,hx,h1,h2⟩ := hrel;have HX := hide hx.out;have H1 := hide h1.out;have H2 := hide h2.out;clear hx h1 h2 hw1 hw0 hne0 hne1 hws hmz hwu hwp;by_cases hlt : i < j
  ·have hltz : (i : Int) < j := (by omega);have hws : IntKind.i64.wrap ((i : Int) + (j : Int)) = ((i + j : Nat) : Int) := (by rw [IntKind.wrap_i64]; omega);obtain ⟨hh,hhh⟩ : ∃ hh : Nat,(i + j) / 2 = hh := ⟨_,rfl⟩;have hhz : ((i : Int) + (j : Int)) / 2 = (hh : Int) := (by omega);have hb1 : i <= hh /\ hh < j := (by omega);have hbc := HB.out.2 hh (by omega) (by omega);obtain ⟨q,hq⟩ : ∃ q,pp - hh = q := ⟨_,rfl⟩;have hwq : IntKind.i64.wrap ((pp : Int) - (hh : Int)) = (q : Int) := (by rw [IntKind.wrap_i64]; omega);have hbz : (0 : Int) <= hh /\ (hh : Int) < n /\ (0 : Int) <= q /\ (q : Int) < n := (by omega);obtain ⟨bz1,bz2,bz3,bz4⟩ := hbz;have hwh : IntKind.i64.wrap ((hh : Int) + 1) = ((hh + 1 : Nat) : Int) := (by rw [IntKind.wrap_i64]; omega);have hqd : q < d.size := (by omega);have hhd : hh < d.size := (by omega);have HQ := hide hq;clear hq
   go_upto_region 35 with (fail)
   have hE : Ext wr wr.drew := (Below.refl wr.heap.size wr).drew;have hcu := (H.out.ext (Ext.trans HX.out hE)).cell q (by omega);have hcv := (H.out.ext (Ext.trans HX.out hE)).cell hh (by omega);obtain ⟨x,hx⟩ : ∃ x,d[q]! = x := ⟨_,rfl⟩;obtain ⟨y,hy⟩ : ∃ y,d[hh]! = y := ⟨_,rfl⟩;rw [hx] at hcu;rw [hy] at hcv;obtain ⟨xi,xs,xz⟩ := x;obtain ⟨yi,ys,yz⟩ := y;have hcl := (cmpE_ext ⟨xi,xs,xz⟩ ⟨yi,ys,yz⟩ wr.drew).mono (R' := fun e w' => ∃ z : Int,e = .returned (.int .i64 z) /\ decide (z < 0) = ltE d[q]! d[hh]! /\ Ext wr.drew w') fun e w' ⟨z,h1,h2,h3⟩ => ⟨z,h1,by rw [hx,hy]; exact h2,h3⟩;have HCL := hide hcl;have HE := hide hE;obtain ⟨u0,u1,u2⟩ := hcu;obtain ⟨v0,v1,v2⟩ := hcv;have u0 : wr.drew.cell? ⟨blk,q * 3,none⟩ = some (.int .i64 xi) := u0;have u1 : wr.drew.cell? ⟨blk,q * 3 + 1,none⟩ = some (.int .i64 xs) := u1;have u2 : wr.drew.cell? ⟨blk,q * 3 + 2,none⟩ = some (.int .i64 xz) := u2;have v0 : wr.drew.cell? ⟨blk,hh * 3,none⟩ = some (.int .i64 yi) := v0;have v1 : wr.drew.cell? ⟨blk,hh * 3 + 1,none⟩ = some (.int .i64 ys) := v1;have v2 : wr.drew.cell? ⟨blk,hh * 3 + 2,none⟩ = some (.int .i64 yz) := v2;clear hcl hE hx hy
   go_still_tail 11,(by kernel_rfl)
   change wpList _ _ _ _ _ wr.drew;generalize wr.drew = w2 at HCL HE u0 u1 u2 v0 v1 v2 ⊢
   go_wp2_with fail
   refine HCL.out.mono ?_;rintro e w3 ⟨z,rfl,hz,E3⟩;have HX3 := hide (Ext.trans (Ext.trans HX.out HE.out) E3);have HZ := hide hz;clear hz E3 HCL u0 u1 u2 v0 v1 v2;have hq := HQ.out;clear HQ;by_cases hl : ltE d[q]! d[hh]! = true
   ·have hzl : z < 0 := (by have := HZ.out; rw [hl] at this; simpa using this);clear HZ;go_wp2
    go_roundw
    case rel =>
     refine ⟨i,hh,hi0,by omega,by omega,rfl,rfl,HX3.out,H1.out,hide (fun t t1 t2 => ?_)⟩;rcases Nat.lt_or_ge t j with e2 | e2
     ·have hbt := HB.out.2 t (by omega) (by omega)
      cases k2 : ltE d[pp - t]! d[t]! with
      | true => rfl
      | false =>
       have k3 := sym_up swoE S1.out S2.out hbc.1 t1 hbt.2.1 hbt.2.2.1 hbc.2.2.2.1 k2;rw [hq] at k3;exact absurd (hl.symm.trans k3) (by decide)
     ·exact H2.out t e2 t2
    case measure => (simp [intOf]) <;> omega
   ·have hl : ltE d[q]! d[hh]! = false := (by simpa using hl);have hzl : ¬ z < 0 := (by have := HZ.out; rw [hl] at this; simpa using this);have hzb : (!decide (z < 0)) = true := (by simp; omega);clear HZ;go_wp2
    go_roundw
    case rel =>
     refine ⟨hh + 1,j,by omega,by omega,hj,by go_num,rfl,HX3.out,hide (fun t t1 t2 => ?_),H2.out⟩;have hbt := HB.out.2 t t1 (by omega);exact sym_up swoE S1.out S2.out hbt.1 (by omega) hbc.2.1 hbc.2.2.1 hbt.2.2.2.1 (by rw [hq]; exact hl)
    case measure => (simp [intOf]) <;> omega
  ·obtain rfl : i = j := (by omega);have hu := HU.out;obtain ⟨en,hen⟩ : ∃ en,mid + m - i = en := ⟨_,rfl⟩;have hpe : pp = mid + m - 1 := (by have := HP.out; omega);have hsc : SymCut ltE a m b mid i d := ⟨HM.out,by rw [<- HLO.out]; exact hi0,by rw [<- HHI.out]; exact hj,fun c c1 c2 => by rw [<- hpe]; exact H1.out c (by rw [HLO.out]; exact c1) c2,fun c c1 c2 => by rw [<- hpe]; exact H2.out c c1 (by rw [HHI.out]; exact c2)⟩;obtain ⟨b1,b2,b3,b4,b5,b6,b7,b8⟩ := hsc.bd ham hmb;rw [hen] at b4 b5 b6;have hwe : IntKind.i64.wrap ((u : Int) - (i : Int)) = (en : Int) := (by rw [IntKind.wrap_i64]; omega);have HC := hide hsc;have HEN := hide hen;have H0 := hide (H.out.ext HX.out);clear hlt hu hpe hsc hen H1 H2 HB HP HLO HHI hi0 hj
   go_upto_region 39 with (fail)
   go_cut [185] from 178 to 185 (fun s185 w' => s185 = .bool (decide (i < m) && decide (m < en)) /\ wr = w')
   case first =>
    by_cases e1 : i < m
    ·have z1 : (i : Int) < (m : Int) := (by omega);by_cases e2 : m < en
     ·have z2 : (m : Int) < (en : Int) := (by omega);go_wp2
      go_meet
      case rel => exact ⟨by simp [e1,e2],rfl⟩
     ·have z2 : ¬ (m : Int) < (en : Int) := (by omega);go_wp2
      go_meet
      case rel => exact ⟨by simp [e1,e2],rfl⟩
    ·have z1 : ¬ (i : Int) < (m : Int) := (by omega);go_wp2
     go_meet
     case rel => exact ⟨by simp [e1],rfl⟩
   case rest =>
   obtain ⟨rfl,rfl⟩ := hcut;obtain ⟨B,hB⟩ : ∃ B,(decide (i < m) && decide (m < en)) = B := ⟨_,rfl⟩;rw [hB]
   go_upto_if 185 with (fail)
   go_cut [186] from 186 to 191 (fun _ w' => ∃ d1,Hid (RowE w' blk cap d1) /\ Hid (PermIn a b d d1) /\ Hid (∀ t,d1[t]! = rotV d i m (mid + m - i) t) /\ Hid (Keeps (fun q => q = blk) w w'))
   case first =>
    cases B with
    | true =>
     have he : i < m /\ m < en := (by simpa using hB);clear hB
     go_wp2_with fail
     refine (rotE_any blk n cap d i m en _ wr H0.out hn he.1 he.2 (by omega) hn6).mono ?_;rintro e w5 ⟨rfl,d1,hr5,hp5,hv5,hk5⟩;have HZ := hide (show ∃ d1,Hid (RowE w5 blk cap d1) /\ Hid (PermIn a b d d1) /\ Hid (∀ t,d1[t]! = rotV d i m (mid + m - i) t) /\ Hid (Keeps (fun q => q = blk) w w5) from ⟨d1,hr5,permIn_mono _ _ i en a b b1 b5 (by omega) hp5,by rw [HEN.out]; exact hv5,(Keeps.of_ext (X := fun q => q = blk) HX.out).trans hk5⟩);clear hr5 hp5 hv5 hk5;go_wp2
     go_meet
     case rel => exact HZ.out
    | false =>
     have he : ¬ (i < m /\ m < en) := by
      intro k;rw [decide_eq_true k.1,decide_eq_true k.2] at hB;cases hB
     have HZ := hide (show ∃ d1,Hid (RowE wr blk cap d1) /\ Hid (PermIn a b d d1) /\ Hid (∀ t,d1[t]! = rotV d i m (mid + m - i) t) /\ Hid (Keeps (fun q => q = blk) w wr) from ⟨d,H0.out,permIn_refl d a b,fun t => rotV_same (by rw [HEN.out]; omega) b3 t,Keeps.of_ext HX.out⟩);clear hB;go_wp2
     go_meet
     case rel => exact HZ.out
   case rest =>
   obtain ⟨d1,hr1,hp1,hv1,hk1⟩ := hcut;have HR1 := hide hr1.out;have HP1 := hide hp1.out;have HV1 := hide hv1.out;have HK1 := hide hk1.out;have hd1 : d1.size = n := hp1.out.1.trans hn;clear hr1 hp1 hv1 hk1 hB H0 HX;generalize wc = w2 at *
   go_upto_region 41 with (fail)
   go_cut [199] from 192 to 199 (fun s199 w' => s199 = .bool (decide (a < i) && decide (i < mid)) /\ w2 = w')
   case first =>
    by_cases e1 : a < i
    ·have z1 : (a : Int) < (i : Int) := (by omega);by_cases e2 : i < mid
     ·have z2 : (i : Int) < (mid : Int) := (by omega);go_wp2
      go_meet
      case rel => exact ⟨by simp [e1,e2],rfl⟩
     ·have z2 : ¬ (i : Int) < (mid : Int) := (by omega);go_wp2
      go_meet
      case rel => exact ⟨by simp [e1,e2],rfl⟩
    ·have z1 : ¬ (a : Int) < (i : Int) := (by omega);go_wp2
     go_meet
     case rel => exact ⟨by simp [e1],rfl⟩
   case rest =>
   obtain ⟨rfl,rfl⟩ := hcut;obtain ⟨B2,hB⟩ : ∃ B,(decide (a < i) && decide (i < mid)) = B := ⟨_,rfl⟩;rw [hB]
   go_upto_if 199 with (fail)
   go_cut [200] from 200 to 205 (fun _ w' => ∃ d2,Hid (RowE w' blk cap d2) /\ Hid (PermIn a mid d1 d2) /\ Hid (SortedIn ltE a mid d2) /\ Hid (Keeps (fun q => q = blk) w w'))
   case first =>
    cases B2 with
    | true =>
     have he : a < i /\ i < mid := (by simpa using hB);clear hB
     go_wp2_with fail
     refine (IH.out d1 a i mid w2 HR1.out hd1 (by have := HN.out; omega) he.1 he.2 (by omega) (HC.out.turned swoE ham hmb S1.out S2.out HV1.out).1 (HC.out.turned swoE ham hmb S1.out S2.out HV1.out).2.1).mono ?_;rintro e w5 ⟨rfl,d2,hr5,hp5,hv5,hk5⟩;have HZ := hide (show ∃ d2,Hid (RowE w5 blk cap d2) /\ Hid (PermIn a mid d1 d2) /\ Hid (SortedIn ltE a mid d2) /\ Hid (Keeps (fun q => q = blk) w w5) from ⟨d2,hr5,hp5,hv5,HK1.out.trans hk5⟩);clear hr5 hp5 hv5 hk5;go_wp2
     go_meet
     case rel => exact HZ.out
    | false =>
     have he : ¬ (a < i /\ i < mid) := by
      intro k;rw [decide_eq_true k.1,decide_eq_true k.2] at hB;cases hB
     have HZ := hide (show ∃ d2,Hid (RowE w2 blk cap d2) /\ Hid (PermIn a mid d1 d2) /\ Hid (SortedIn ltE a mid d2) /\ Hid (Keeps (fun q => q = blk) w w2) from ⟨d1,HR1.out,permIn_refl d1 a mid,HC.out.left swoE ham hmb S1.out S2.out HV1.out he,HK1.out⟩);clear hB;go_wp2
     go_meet
     case rel => exact HZ.out
   case rest =>
   obtain ⟨d2,hr2,hp2,hs2,hk2⟩ := hcut;have HR2 := hide hr2.out;have HP2 := hide hp2.out;have HS2 := hide hs2.out;have HK2 := hide hk2.out;have hd2 : d2.size = n := hp2.out.1.trans hd1;clear hr2 hp2 hs2 hk2 hB HR1 HK1;generalize wc = w3 at *
   go_upto_region 43 with (fail)
   go_cut [213] from 206 to 213 (fun s213 w' => s213 = .bool (decide (mid < en) && decide (en < b)) /\ w3 = w')
   case first =>
    by_cases e1 : mid < en
    ·have z1 : (mid : Int) < (en : Int) := (by omega);by_cases e2 : en < b
     ·have z2 : (en : Int) < (b : Int) := (by omega);go_wp2
      go_meet
      case rel => exact ⟨by simp [e1,e2],rfl⟩
     ·have z2 : ¬ (en : Int) < (b : Int) := (by omega);go_wp2
      go_meet
      case rel => exact ⟨by simp [e1,e2],rfl⟩
    ·have z1 : ¬ (mid : Int) < (en : Int) := (by omega);go_wp2
     go_meet
     case rel => exact ⟨by simp [e1],rfl⟩
   case rest =>
   obtain ⟨rfl,rfl⟩ := hcut;obtain ⟨B3,hB⟩ : ∃ B,(decide (mid < en) && decide (en < b)) = B := ⟨_,rfl⟩;rw [hB]
   cases B3 with
   | true =>
    have he : mid < en /\ en < b := (by simpa using hB);have hT := HC.out.turned swoE ham hmb S1.out S2.out HV1.out;rw [HEN.out] at hT;have HT := hide hT;clear hB hT
    go_wp2_with fail
    refine (IH.out d2 mid en b w3 HR2.out hd2 (by have := HN.out; have := HM.out; have := HMB.out; omega) he.1 he.2 hbn (sorted_past HP2.out (Nat.le_refl _) HT.out.2.2.1) (sorted_past HP2.out (by omega) HT.out.2.2.2.1)).mono ?_;rintro e w5 ⟨rfl,d3,hr5,hp5,hs5,hk5⟩;have HZ := hide (show ∃ d',RowE w5 blk cap d' /\ PermIn a b d d' /\ SortedIn ltE a b d' /\ Keeps (fun q => q = blk) w w5 from ⟨d3,hr5,(HC.out.done swoE ham hmb (by omega) S1.out S2.out HP1.out HV1.out HP2.out HS2.out hp5 hs5).1,(HC.out.done swoE ham hmb (by omega) S1.out S2.out HP1.out HV1.out HP2.out HS2.out hp5 hs5).2,HK2.out.trans hk5⟩);clear hr5 hp5 hs5 hk5;go_wp2;go_end0
    exact ⟨rfl,HZ.out⟩
   | false =>
    have he : ¬ (mid < en /\ en < b) := by
     intro k;rw [decide_eq_true k.1,decide_eq_true k.2] at hB;cases hB
    have hT := HC.out.right swoE ham hmb S1.out S2.out HV1.out (by rw [HEN.out]; exact he);have hD := HC.out.done swoE ham hmb (by omega) S1.out S2.out HP1.out HV1.out HP2.out HS2.out (permIn_refl d2 mid b) (sorted_past HP2.out (Nat.le_refl _) hT);have HZ := hide (show ∃ d',RowE w3 blk cap d' /\ PermIn a b d d' /\ SortedIn ltE a b d' /\ Keeps (fun q => q = blk) w w3 from ⟨d2,HR2.out,hD.1,hD.2,HK2.out⟩);clear hB hT hD;go_wp2;go_end0;exact ⟨rfl,HZ.out⟩
end Go.Proofs.YtoaiakhnnfbkdaaGreatDoor
