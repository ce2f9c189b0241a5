/- Lemmas. -/
import Derived.Test.YtoaiakhnnfbkdaaGreatDoorZsy
import Derived.StillTailTactics
set_option maxRecDepth 100000
set_option maxHeartbeats 32000000
namespace Go.Proofs.YtoaiakhnnfbkdaaGreatDoor
open Go.ChangeShapes Go.WideShapes Go.ChangeAt Go.RowKit Go.Lib Go.Shelf Go.Sort
theorem asymE {lt : EndD -> EndD -> Bool} (h : SWO lt) {x y : EndD} (e : lt x y = true) : lt y x = false := by
 cases h2 : lt y x with
 | false => rfl
 | true => exact absurd ((h.trans x y x e h2).symm.trans (h.irrefl x)) (by decide)
theorem sortedIn_le {lt : EndD -> EndD -> Bool} (h : SWO lt) {a b : Nat} {d : Array EndD} (s : SortedIn lt a b d) {i j : Nat} (hi : a <= i) (hij : i <= j) (hj : j < b) : lt d[j]! d[i]! = false := by
 rcases Nat.lt_or_ge i j with hl | hg
 ·exact s i j hi hl hj
 ·have : i = j := by omega
  subst this;exact h.irrefl _
theorem ins_first {lt : EndD -> EndD -> Bool} (h : SWO lt) {a b i : Nat} {d d' : Array EndD} (hai : a < i) (hib : i <= b) (hs : SortedIn lt (a + 1) b d) (h1 : ∀ t,a < t -> t < i -> lt d[t]! d[a]! = true) (h2 : ∀ t,i <= t -> t < b -> lt d[t]! d[a]! = false)
  (hd : ∀ t,d'[t]! = if a <= t /\ t + 1 < i then d[t + 1]! else if t + 1 = i then d[a]! else d[t]!) : SortedIn lt a b d' := by
 intro p q hp hpq hq;rw [hd p,hd q];by_cases e1 : q + 1 < i
 ·rw [if_pos (by omega),if_pos (by omega)];exact hs (p + 1) (q + 1) (by omega) (by omega) (by omega)
 ·rw [if_neg (c := a <= q /\ q + 1 < i) (by omega)];by_cases e2 : q + 1 = i
  ·rw [if_pos e2,if_pos (by omega)];exact asymE h (h1 (p + 1) (by omega) (by omega))
  ·rw [if_neg e2];by_cases e3 : p + 1 < i
   ·rw [if_pos (by omega)];exact hs (p + 1) q (by omega) (by omega) hq
   ·rw [if_neg (by omega)];by_cases e4 : p + 1 = i
    ·rw [if_pos e4];exact h2 q (by omega) hq
    ·rw [if_neg e4];exact hs p q (by omega) hpq hq
theorem ins_last {lt : EndD -> EndD -> Bool} (h : SWO lt) {a m i : Nat} {d d' : Array EndD} (hai : a <= i) (him : i <= m) (hs : SortedIn lt a m d) (h1 : ∀ t,a <= t -> t < i -> lt d[m]! d[t]! = false) (h2 : ∀ t,i <= t -> t < m -> lt d[m]! d[t]! = true)
  (hd : ∀ t,d'[t]! = if i < t /\ t <= m then d[t - 1]! else if t = i then d[m]! else d[t]!) : SortedIn lt a (m + 1) d' := by
 intro p q hp hpq hq;rw [hd p,hd q];by_cases e1 : i < q
 ·rw [if_pos (show i < q /\ q <= m by omega)];by_cases e2 : i < p
  ·rw [if_pos (by omega)];exact hs (p - 1) (q - 1) (by omega) (by omega) (by omega)
  ·rw [if_neg (by omega)];by_cases e3 : p = i
   ·rw [if_pos e3];exact asymE h (h2 (q - 1) (by omega) (by omega))
   ·rw [if_neg e3];exact sortedIn_le h hs hp (by omega) (by omega)
 ·rw [if_neg (c := i < q /\ q <= m) (by omega),if_neg (c := i < p /\ p <= m) (by omega),if_neg (show ¬ p = i by omega)];by_cases e2 : q = i
  ·rw [if_pos e2];exact h1 p hp (by omega)
  ·rw [if_neg e2];exact hs p q hp hpq (by omega)
structure SymCut (lt : EndD -> EndD -> Bool) (a m b mid start : Nat) (d : Array EndD) : Prop where
 hm : mid = (a + b) / 2
 lo : (if m > mid then mid + m - b else a) <= start
 hi : start <= (if m > mid then mid else m)
 ahead : ∀ c,(if m > mid then mid + m - b else a) <= c -> c < start -> lt d[mid + m - 1 - c]! d[c]! = false
 behind : ∀ c,start <= c -> c < (if m > mid then mid else m) -> lt d[mid + m - 1 - c]! d[c]! = true
section
variable {lt : EndD -> EndD -> Bool} {a m b mid start : Nat} {d d1 d2 d3 : Array EndD}
theorem SymCut.bd (c : SymCut lt a m b mid start d) (ham : a < m) (hmb : m < b) : a <= start /\ start <= m /\ start <= mid /\ m <= mid + m - start /\ mid + m - start <= b /\ mid <= mid + m - start /\ a <= mid /\ mid < b := by
 have h1 := c.hm;have h2 := c.lo;have h3 := c.hi;by_cases e : m > mid
 ·rw [if_pos e] at h2 h3;omega
 ·rw [if_neg e] at h2 h3;omega
theorem SymCut.cross (c : SymCut lt a m b mid start d) (h : SWO lt) (ham : a < m) (hmb : m < b) (s1 : SortedIn lt a m d) (s2 : SortedIn lt m b d) :
  (∀ x y,a <= x -> x < start -> mid + m - start <= y -> y < b -> lt d[y]! d[x]! = false) /\ (∀ x y,m <= x -> x < mid + m - start -> start <= y -> y < m -> lt d[y]! d[x]! = false) := by
 obtain ⟨b1,b2,b3,b4,b5,b6,b7,b8⟩ := c.bd ham hmb;have h1 := c.hm;have h2 := c.lo;have h3 := c.hi;refine ⟨fun x y hx hxs hy hyb => ?_,fun x y hx hxe hy hym => ?_⟩
 ·have hlo : (if m > mid then mid + m - b else a) <= start - 1 := by
   by_cases e : m > mid
   ·rw [if_pos e] at h2 ⊢; omega
   ·rw [if_neg e]; omega
  have k := c.ahead (start - 1) hlo (by omega);rw [show mid + m - 1 - (start - 1) = mid + m - start by omega] at k;have k1 := sortedIn_le h s2 (i := mid + m - start) (j := y) (by omega) hy hyb;have k2 := sortedIn_le h s1 (i := x) (j := start - 1) hx (by omega) (by omega);exact h.ntrans _ _ _ (h.ntrans _ _ _ k1 k) k2
 ·have hhi : start < (if m > mid then mid else m) := by
   by_cases e : m > mid
   ·rw [if_pos e]; omega
   ·rw [if_neg e]; omega
  have k := c.behind start (Nat.le_refl _) hhi;rw [show mid + m - 1 - start = mid + m - start - 1 by omega] at k;have k0 := asymE h k;have k1 := sortedIn_le h s1 (i := start) (j := y) (by omega) hy hym;have k2 := sortedIn_le h s2 (i := x) (j := mid + m - start - 1) hx (by omega) (by omega);exact h.ntrans _ _ _ (h.ntrans _ _ _ k1 k0) k2
theorem rot_at (hs : start <= m) (he : m <= mid + m - start) (hmd : start <= mid) (hd : ∀ t,d1[t]! = rotV d start m (mid + m - start) t) (t : Nat) :
  (t < start -> d1[t]! = d[t]!) /\ (start <= t -> t < mid -> d1[t]! = d[t - start + m]!) /\ (mid <= t -> t < mid + m - start -> d1[t]! = d[t - (mid - start)]!) /\ (mid + m - start <= t -> d1[t]! = d[t]!) := by
 have h := hd t;unfold rotV at h;refine ⟨fun h1 => ?_,fun h1 h2 => ?_,fun h1 h2 => ?_,fun h1 => ?_⟩
 ·rw [h,if_neg (by omega),if_neg (by omega)]
 ·rw [h,if_pos (by omega)]
 ·rw [h,if_neg (by omega),if_pos (by omega)];congr 1;omega
 ·rw [h,if_neg (by omega),if_neg (by omega)]
theorem SymCut.turned (c : SymCut lt a m b mid start d) (h : SWO lt) (ham : a < m) (hmb : m < b) (s1 : SortedIn lt a m d) (s2 : SortedIn lt m b d) (hd : ∀ t,d1[t]! = rotV d start m (mid + m - start) t) :
  SortedIn lt a start d1 /\ SortedIn lt start mid d1 /\ SortedIn lt mid (mid + m - start) d1 /\ SortedIn lt (mid + m - start) b d1 /\ ∀ x y,a <= x -> x < mid -> mid <= y -> y < b -> lt d1[y]! d1[x]! = false := by
 obtain ⟨b1,b2,b3,b4,b5,b6,b7,b8⟩ := c.bd ham hmb;obtain ⟨x1,x2⟩ := c.cross h ham hmb s1 s2;have R := rot_at b2 b4 b3 hd;refine ⟨fun p q hp hpq hq => ?_,fun p q hp hpq hq => ?_,fun p q hp hpq hq => ?_,fun p q hp hpq hq => ?_,fun x y hx hxm hy hyb => ?_⟩
 ·rw [(R p).1 (by omega),(R q).1 hq];exact s1 p q hp hpq (by omega)
 ·rw [(R p).2.1 hp (by omega),(R q).2.1 (by omega) hq];exact s2 _ _ (by omega) (by omega) (by omega)
 ·rw [(R p).2.2.1 hp (by omega),(R q).2.2.1 (by omega) hq];exact s1 _ _ (by omega) (by omega) (by omega)
 ·rw [(R p).2.2.2 hp,(R q).2.2.2 (by omega)];exact s2 p q (by omega) hpq hq
 ·by_cases e1 : x < start
  ·rw [(R x).1 e1];by_cases e2 : y < mid + m - start
   ·rw [(R y).2.2.1 hy e2];exact sortedIn_le h s1 hx (by omega) (by omega)
   ·rw [(R y).2.2.2 (by omega)];exact x1 x y hx e1 (by omega) hyb
  ·rw [(R x).2.1 (by omega) hxm];by_cases e2 : y < mid + m - start
   ·rw [(R y).2.2.1 hy e2];exact x2 _ _ (by omega) (by omega) (by omega) (by omega)
   ·rw [(R y).2.2.2 (by omega)];exact sortedIn_le h s2 (by omega) (by omega) hyb
theorem sym_join (hab : a <= mid) (hmb : mid <= b) (hb : b <= d1.size) (hx : ∀ x y,a <= x -> x < mid -> mid <= y -> y < b -> lt d1[y]! d1[x]! = false) (p1 : PermIn a mid d1 d2) (s1 : SortedIn lt a mid d2) (p2 : PermIn mid b d2 d3) (s2 : SortedIn lt mid b d3) : SortedIn lt a b d3 := by
 intro p q hp hpq hq;by_cases e1 : q < mid
 ·rw [p2.2.1 p (.inl (by omega)),p2.2.1 q (.inl e1)];exact s1 p q hp hpq e1
 ·by_cases e2 : mid <= p
  ·exact s2 p q e2 hpq hq
  ·rw [p2.2.1 p (.inl (by omega))];have k1 := permIn_all d1 d2 a mid (fun x => ∀ y,mid <= y -> y < b -> lt d1[y]! x = false) (by omega) p1 (fun i h1 h2 y h3 h4 => hx i y h1 h2 h3 h4) p hp (by omega);exact permIn_all d2 d3 mid b (fun y => lt y d2[p]! = false) (by rw [p1.1]; exact hb) p2 (fun i h1 h2 => by rw [p1.2.1 i (.inr h1)]; exact k1 i h1 h2) q (by omega) hq
end
open Go.Maps
theorem frame220 (x : Nat -> Value) : frameOf 220 x = #[x 0,x 1,x 2,x 3,x 4,x 5,x 6,x 7,x 8,x 9,x 10,x 11,x 12,x 13,x 14,x 15,x 16,x 17,x 18,x 19,x 20,x 21,x 22,x 23,x 24,x 25,x 26,x 27,x 28,x 29,x 30,x 31,x 32,x 33,x 34,x 35,x 36,x 37,x 38,x 39,x 40,x 41,x 42,x 43,x 44,x 45,x 46,x 47,x 48,x 49,x 50,x 51,x 52,x 53,x 54,x 55,x 56,x 57,x 58,x 59,x 60,x 61,x 62,x 63,x 64,x 65,x 66,x 67,x 68,x 69,x 70,x 71,x 72,x 73,x 74,x 75,x 76,x 77,x 78,x 79,x 80,x 81,x 82,x 83,x 84,x 85,x 86,x 87,x 88,x 89,x 90,x 91,x 92,x 93,x 94,x 95,x 96,x 97,x 98,x 99,x 100,x 101,x 102,x 103,x 104,x 105,x 106,x 107,x 108,x 109,x 110,x 111,x 112,x 113,x 114,x 115,x 116,x 117,x 118,x 119,x 120,x 121,x 122,x 123,x 124,x 125,x 126,x 127,x 128,x 129,x 130,x 131,x 132,x 133,x 134,x 135,x 136,x 137,x 138,x 139,x 140,x 141,x 142,x 143,x 144,x 145,x 146,x 147,x 148,x 149,x 150,x 151,x 152,x 153,x 154,x 155,x 156,x 157,x 158,x 159,x 160,x 161,x 162,x 163,x 164,x 165,x 166,x 167,x 168,x 169,x 170,x 171,x 172,x 173,x 174,x 175,x 176,x 177,x 178,x 179,x 180,x 181,x 182,x 183,x 184,x 185,x 186,x 187,x 188,x 189,x 190,x 191,x 192,x 193,x 194,x 195,x 196,x 197,x 198,x 199,x 200,x 201,x 202,x 203,x 204,x 205,x 206,x 207,x 208,x 209,x 210,x 211,x 212,x 213,x 214,x 215,x 216,x 217,x 218,x 219] := rfl
theorem grow_ext (W : World) (q : Nat) (os : Array Obj) : Ext W (Go.Sort.grow (W.drewN q) os) := by
 refine ⟨rfl,rfl,rfl, ?_,fun i hi => ?_⟩
 ·show W.heap.size <= (W.heap ++ os).size;rw [Array.size_append];exact Nat.le_add_right _ _
 ·show (W.heap ++ os)[i]? = W.heap[i]?;rw [Array.getElem?_append_left hi]
abbrev ltE := ltOf cfE
theorem cmpE_ext (x y : EndD) (W : World) : Calls Tryz.prog 95 #[.agg #[.int .i64 x.id,.int .i64 x.svc,.int .i64 x.zone],.agg #[.int .i64 y.id,.int .i64 y.svc,.int .i64 y.zone]] W fun e w' => ∃ z : Int,e = .returned (.int .i64 z) /\ decide (z < 0) = ltE x y /\ Ext W w' := by
 refine (closE_any x y W).mono ?_;rintro e w' ⟨rfl,q,os,rfl⟩;exact ⟨_,rfl,rfl,grow_ext _ _ _⟩
theorem symE_first (blk n cap : Nat) (d : Array EndD) (a m b : Nat) (w : World) (h : RowE w blk cap d) (hn : d.size = n) (hm : a + 1 = m) (hab : m < b) (hbn : b <= n) (hn6 : n <= 1000000) (hs : SortedIn ltE m b d) :
  Calls Tryz.prog 158 #[.slice (some ⟨blk,0,none⟩) n cap,.int .i64 a,.int .i64 (m : Nat),.int .i64 b,.func (.func 95) #[] #[]] w fun e w' => e = .returned (.tuple #[]) /\ ∃ d',RowE w' blk cap d' /\ PermIn a b d d' /\ SortedIn ltE a b d' /\ Keeps (fun q => q = blk) w w' := by
 have H := hide h;have HS := hide hs;have hw1 : IntKind.i64.wrap ((m : Int) - (a : Int)) = 1 := by rw [IntKind.wrap_i64]; omega
 have HMM := hide hm;have ham : a < m := by omega
 clear h hs hm
 go_enter Tryz.func158,Tryz.ntmps158
 go_wp2_with fail
 go_loopw [10,11] (fun v10 v11 wr => ∃ i j : Nat,m <= i /\ i <= j /\ j <= b /\ v10 = .int .i64 i /\ v11 = .int .i64 j /\ Hid (Ext w wr) /\ Hid (∀ t,a < t -> t < i -> ltE d[t]! d[a]! = true) /\ Hid (∀ t,j <= t -> t < b -> ltE d[t]! d[a]! = false)) (fun i j _ => (intOf j).toNat - (intOf i).toNat)
 case atStart => exact ⟨m,b,Nat.le_refl _,by omega,Nat.le_refl _,rfl,rfl,zb,hide (fun t h1 h2 => by have := HMM.out; omega),hide (fun t h1 h2 => by omega)⟩
 case round =>
  obtain ⟨i,j,hi,hij,hj,rfl,rfl,hx,h1,h2⟩ := hrel;have HX := hide hx.out;have H1 := hide h1.out;have H2 := hide h2.out;clear hx h1 h2 hw1;by_cases hlt : i < j
  ·have hltz : (i : Int) < j := (by omega);have hws : IntKind.i64.wrap ((i : Int) + (j : Int)) = ((i + j : Nat) : Int) := (by rw [IntKind.wrap_i64]; omega);obtain ⟨hh,hhh⟩ : ∃ hh : Nat,(i + j) / 2 = hh := ⟨_,rfl⟩;have hhz : ((i : Int) + (j : Int)) / 2 = (hh : Int) := (by omega);have hb1 : i <= hh /\ hh < j := (by omega);have hbz : (0 : Int) <= hh /\ (hh : Int) < n /\ (0 : Int) <= a /\ (a : Int) < n := (by omega);obtain ⟨bz1,bz2,bz3,bz4⟩ := hbz;have hwh : IntKind.i64.wrap ((hh : Int) + 1) = ((hh + 1 : Nat) : Int) := by rw [IntKind.wrap_i64]; omega
   go_upto_region 5 with (fail)
   have hE : Ext wr wr.drew := (Below.refl wr.heap.size wr).drew;have hcu := (H.out.ext (Ext.trans HX.out hE)).cell hh (by omega);have hcv := (H.out.ext (Ext.trans HX.out hE)).cell a (by omega);obtain ⟨x,hx⟩ : ∃ x,d[hh]! = x := ⟨_,rfl⟩;obtain ⟨y,hy⟩ : ∃ y,d[a]! = y := ⟨_,rfl⟩;rw [hx] at hcu;rw [hy] at hcv;obtain ⟨xi,xs,xz⟩ := x;obtain ⟨yi,ys,yz⟩ := y;have hcl := (cmpE_ext ⟨xi,xs,xz⟩ ⟨yi,ys,yz⟩ wr.drew).mono (R' := fun e w' => ∃ z : Int,e = .returned (.int .i64 z) /\ decide (z < 0) = ltE d[hh]! d[a]! /\ Ext wr.drew w') fun e w' ⟨z,h1,h2,h3⟩ => ⟨z,h1,by rw [hx,hy]; exact h2,h3⟩;have HCL := hide hcl;have HE := hide hE;obtain ⟨u0,u1,u2⟩ := hcu;obtain ⟨v0,v1,v2⟩ := hcv;have u0 : wr.drew.cell? ⟨blk,hh * 3,none⟩ = some (.int .i64 xi) := u0;have u1 : wr.drew.cell? ⟨blk,hh * 3 + 1,none⟩ = some (.int .i64 xs) := u1;have u2 : wr.drew.cell? ⟨blk,hh * 3 + 2,none⟩ = some (.int .i64 xz) := u2;have v0 : wr.drew.cell? ⟨blk,a * 3,none⟩ = some (.int .i64 yi) := v0;have v1 : wr.drew.cell? ⟨blk,a * 3 + 1,none⟩ = some (.int .i64 ys) := v1;have v2 : wr.drew.cell? ⟨blk,a * 3 + 2,none⟩ = some (.int .i64 yz) := v2;clear hcl hE hx hy
   go_still_tail 9,(by kernel_rfl)
   change wpList _ _ _ _ _ wr.drew;generalize wr.drew = w2 at HCL HE u0 u1 u2 v0 v1 v2 ⊢
   go_wp2_with fail
   refine HCL.out.mono ?_;rintro e w3 ⟨z,rfl,hz,E3⟩;have HX3 := hide (Ext.trans (Ext.trans HX.out HE.out) E3);have HZ := hide hz;clear hz E3 HCL u0 u1 u2 v0 v1 v2;by_cases hl : ltE d[hh]! d[a]! = true
   ·have hzl : z < 0 := (by have := HZ.out; rw [hl] at this; simpa using this);clear HZ;go_wp2
    go_roundw
    case rel =>
     refine ⟨hh + 1,j,by omega,by omega,hj,by go_num,rfl,HX3.out,hide (fun t t1 t2 => ?_),H2.out⟩;rcases Nat.lt_or_ge t i with e | e
     ·exact H1.out t t1 e
     ·rw [<- hl];rcases Nat.lt_or_ge t hh with e2 | e2
      ·have k := HS.out t hh (by omega) e2 (by omega);rw [hl]
       cases k2 : ltE d[t]! d[a]! with
       | true => rfl
       | false => exact absurd ((swoE.ntrans _ _ _ k k2).symm.trans hl) (by decide)
      ·rw [show t = hh by omega]
    case measure => (simp [intOf]) <;> omega
   ·have hl : ltE d[hh]! d[a]! = false := (by simpa using hl);have hzl : ¬ z < 0 := (by have := HZ.out; rw [hl] at this; simpa using this);clear HZ;go_wp2
    go_roundw
    case rel =>
     refine ⟨i,hh,hi,by omega,by omega,rfl,rfl,HX3.out,H1.out,hide (fun t t1 t2 => ?_)⟩;rcases Nat.lt_or_ge hh t with e2 | e2
     ·exact swoE.ntrans _ _ _ (HS.out hh t (by omega) e2 t2) hl
     ·rw [show t = hh by omega];exact hl
    case measure => (simp [intOf]) <;> omega
  ·obtain rfl : i = j := (by omega);have hwi : IntKind.i64.wrap ((i : Int) - 1) = ((i - 1 : Nat) : Int) := (by rw [IntKind.wrap_i64]; omega);have HW1 := hide hwi;have H0 := hide (H.out.ext HX.out);clear hwi hlt
   go_wp2_with fail
   go_loopw [13] (fun v13 w1 => ∃ (p : Nat) (d1 : Array EndD),a <= p /\ p <= i - 1 /\ v13 = .int .i64 p /\ Hid (RowE w1 blk cap d1) /\ Hid (PermIn a b d d1) /\ Hid (∀ t,d1[t]! = if a <= t /\ t < p then d[t + 1]! else if t = p then d[a]! else d[t]!) /\ Hid (Keeps (fun q => q = blk) w w1)) (fun p _ => i - 1 - (intOf p).toNat)
   case atStart =>
    refine ⟨a,d,Nat.le_refl _,by omega,rfl,H0.out,permIn_refl d a b,hide (fun t => ?_),Keeps.of_ext HX.out⟩;rw [if_neg (by omega)];by_cases e : t = a
    ·rw [if_pos e,e]
    ·rw [if_neg e]
   case round =>
    obtain ⟨p,d1,hp1,hp2,rfl,hr,hp,hv,hk⟩ := hrel;generalize wr = w1 at *;have HR := hide hr.out;have HP := hide hp.out;have HV := hide hv.out;have HK := hide hk.out;have hds : d1.size = n := hp.out.1.trans hn;clear hr hp hv hk H0;have hwi := HW1.out;by_cases hlp : p < i - 1
    ·have hlz : (p : Int) < ((i - 1 : Nat) : Int) := (by omega);obtain ⟨q,hq⟩ : ∃ q,p + 1 = q := ⟨_,rfl⟩;have HQ := hide hq;have hwp : IntKind.i64.wrap ((p : Int) + 1) = (q : Int) := (by rw [IntKind.wrap_i64]; omega);have HWP := hide hwp;have hpd : p < d1.size := (by omega);have hqd : q < d1.size := (by omega);have HBD := hide (show (0 : Int) <= p /\ (p : Int) < n /\ (0 : Int) <= q /\ (q : Int) < n by omega);have hcx := HR.out.cell p hpd;have hcy := HR.out.cell q hqd;obtain ⟨x,hx⟩ : ∃ x,d1[p]! = x := ⟨_,rfl⟩;obtain ⟨y,hy⟩ : ∃ y,d1[q]! = y := ⟨_,rfl⟩;rw [hx] at hcx;rw [hy] at hcy;have HX0 := hide hx;have HY0 := hide hy;obtain ⟨xi,xs,xz⟩ := x;obtain ⟨yi,ys,yz⟩ := y;have hup : ∀ {w' : World} {j : Nat},Ext w1 w' -> w'.cell? ⟨blk,j,none⟩ = w1.cell? ⟨blk,j,none⟩ := fun h => h.cell HR.out.lt
     have hxx : ∀ vs w',vs.length <= 0 -> PhXE w1 blk p q ⟨xi,xs,xz⟩ ⟨yi,ys,yz⟩ vs w' -> w'.cell? ⟨blk,p * 3,none⟩ = some (.int .i64 xi) /\ w'.cell? ⟨blk,p * 3 + 1,none⟩ = some (.int .i64 xs) /\ w'.cell? ⟨blk,p * 3 + 2,none⟩ = some (.int .i64 xz) := fun vs w' hn h => by
      rcases vs with _ | ⟨u,vs⟩
      ·rw [hup h,hup h,hup h]; exact hcx
      ·simp at hn
     have hxy : ∀ vs w',vs.length <= 0 -> PhXE w1 blk p q ⟨xi,xs,xz⟩ ⟨yi,ys,yz⟩ vs w' -> w'.cell? ⟨blk,q * 3,none⟩ = some (.int .i64 yi) /\ w'.cell? ⟨blk,q * 3 + 1,none⟩ = some (.int .i64 ys) /\ w'.cell? ⟨blk,q * 3 + 2,none⟩ = some (.int .i64 yz) := fun vs w' hn h => by
      rcases vs with _ | ⟨u,vs⟩
      ·rw [hup h,hup h,hup h]; exact hcy
      ·simp at hn
     have hs0 : ∀ w',Ext w1 w' -> ((∃ u,w'.cell? ⟨blk,p * 3,none⟩ = some u) /\ (∃ u,w'.cell? ⟨blk,p * 3 + 1,none⟩ = some u) /\ ∃ u,w'.cell? ⟨blk,p * 3 + 2,none⟩ = some u) /\ ∀ o,w'.frozen? ⟨blk,o,none⟩ = false := fun w' h => by
      obtain ⟨c0,c1,c2⟩ := (HR.out.ext h).cell p hpd;exact ⟨⟨⟨_,c0⟩,⟨_,c1⟩,⟨_,c2⟩⟩,(HR.out.ext h).frozen⟩
     have hs1 : ∀ w2 w',Ext w1 w2 -> Ext (set3 w2 blk p (⟨yi,ys,yz⟩ : EndD)) w' -> ((∃ u,w'.cell? ⟨blk,q * 3,none⟩ = some u) /\ (∃ u,w'.cell? ⟨blk,q * 3 + 1,none⟩ = some u) /\ ∃ u,w'.cell? ⟨blk,q * 3 + 2,none⟩ = some u) /\ ∀ o,w'.frozen? ⟨blk,o,none⟩ = false := fun w2 w' h k => by
      have h2 := ((HR.out.ext h).set p ⟨yi,ys,yz⟩).ext k;obtain ⟨c0,c1,c2⟩ := h2.cell q (by rw [Array.size_setIfInBounds]; exact hqd);exact ⟨⟨⟨_,c0⟩,⟨_,c1⟩,⟨_,c2⟩⟩,h2.frozen⟩
     have HCX := hide hxx;have HCY := hide hxy;have HS0 := hide hs0;have HS1 := hide hs1;clear hcx hcy hx hy hup hxx hxy hs0 hs1
     go_upto_region 11 with (fail)
     refine wp_region_rw 220 [15,17] [61,62,63,64,65,66,67,68,69,70,71,72,73,74,75,76] (PhXE w1 blk p q ⟨xi,xs,xz⟩ ⟨yi,ys,yz⟩) (fun (t : Nat) (wI : World) (v : Value) => match t with | 61 => v = (.slice (some ⟨blk,0,none⟩) n cap) | 62 => v = (.int .i64 (p : Nat)) | 63 => v = (.slice (some ⟨blk,0,none⟩) n cap) | 64 => v = (.int .i64 (p : Nat)) | 65 => v = (.int .i64 (q : Nat)) | 66 => v = (.slice (some ⟨blk,0,none⟩) n cap) | 67 => v = (.int .i64 (p : Nat)) | 68 => v = (.int .i64 (q : Nat)) | 69 => v = (.pointer (some ⟨blk,q * 3,none⟩)) | 70 => v = (.agg #[.int .i64 yi,.int .i64 ys,.int .i64 yz]) | 71 => v = (.slice (some ⟨blk,0,none⟩) n cap) | 72 => v = (.int .i64 (p : Nat)) | 73 => v = (.pointer (some ⟨blk,p * 3,none⟩)) | 74 => v = (.agg #[.int .i64 xi,.int .i64 xs,.int .i64 xz]) | 75 => v = (.pointer (some ⟨blk,p * 3,none⟩)) | 76 => v = (.pointer (some ⟨blk,q * 3,none⟩)) | _ => True) (fun _ _ => True) (by kernel_rfl) rfl (by kernel_rfl) (by kernel_rfl) (by kernel_rfl) (by kernel_rfl) ?_ ?_ ?_ ?_ ?_ ?_ ?_
     ·intro w' w'' h;trivial
     ·intro t w' w'' v hR hv;exact hv
     ·intro vs w' w'' h e;exact PhXE.ext h e
     ·exact zb.drew
     ·intro i o ho hmi vs X w' hpk hph hX hI hF K hK;have hin : i < 18 := (zg ho);rcases zo hin with rfl | rfl | rfl | rfl | rfl | rfl | rfl | rfl | rfl | rfl | rfl | rfl | rfl | rfl | rfl | rfl | rfl | rfl
      all_goals first | (exact absurd hmi (by decide)) | (obtain rfl := Option.some.inj ho; unfold wpOp; simp only [ho]; rw [if_pos (by rfl)]; left; rw [frame220])
      ·have e0 : X 0 = (.slice (some ⟨blk,0,none⟩) n cap) := zk3 (hF 0);go_simp;refine zm1 hK ((.slice (some ⟨blk,0,none⟩) n cap)) ?_;simp [frame220,Act.put, *]
      ·have e13 : X 13 = (.int .i64 (p : Nat)) := zk3 (hF 13);go_simp;refine zm1 hK ((.int .i64 (p : Nat))) ?_;simp [frame220,Act.put, *]
      ·have e0 : X 0 = (.slice (some ⟨blk,0,none⟩) n cap) := zk3 (hF 0);go_simp;refine zm1 hK ((.slice (some ⟨blk,0,none⟩) n cap)) ?_;simp [frame220,Act.put, *]
      ·have e13 : X 13 = (.int .i64 (p : Nat)) := zk3 (hF 13);go_simp;refine zm1 hK ((.int .i64 (p : Nat))) ?_;simp [frame220,Act.put, *]
      ·have e64 : X 64 = _ := zk2 (hI 64);have q3 := HWP.out;go_simp;refine zm1 hK ((.int .i64 (q : Nat))) ?_;simp [frame220,Act.put, *]
      ·have e0 : X 0 = (.slice (some ⟨blk,0,none⟩) n cap) := zk3 (hF 0);go_simp;refine zm1 hK ((.slice (some ⟨blk,0,none⟩) n cap)) ?_;simp [frame220,Act.put, *]
      ·have e13 : X 13 = (.int .i64 (p : Nat)) := zk3 (hF 13);go_simp;refine zm1 hK ((.int .i64 (p : Nat))) ?_;simp [frame220,Act.put, *]
      ·have e67 : X 67 = _ := zk2 (hI 67);have q3 := HWP.out;go_simp;refine zm1 hK ((.int .i64 (q : Nat))) ?_;simp [frame220,Act.put, *]
      ·have e66 : X 66 = _ := zk2 (hI 66);have e68 : X 68 = _ := zk2 (hI 68);have q1 := HBD.out.2.2.1;have q2 := HBD.out.2.2.2;go_simp;refine zm1 hK ((.pointer (some ⟨blk,q * 3,none⟩))) ?_;simp [frame220,Act.put, *]
      ·have e69 : X 69 = _ := zk2 (hI 69);obtain ⟨c0,c1,c2⟩ := HCY.out vs w' ((hpk 0 (by decide)).2 (by kernel_rfl)) hph;go_simp;refine zm1 hK ((.agg #[.int .i64 yi,.int .i64 ys,.int .i64 yz])) ?_;simp [frame220,Act.put, *]
      ·have e0 : X 0 = (.slice (some ⟨blk,0,none⟩) n cap) := zk3 (hF 0);go_simp;refine zm1 hK ((.slice (some ⟨blk,0,none⟩) n cap)) ?_;simp [frame220,Act.put, *]
      ·have e13 : X 13 = (.int .i64 (p : Nat)) := zk3 (hF 13);go_simp;refine zm1 hK ((.int .i64 (p : Nat))) ?_;simp [frame220,Act.put, *]
      ·have e71 : X 71 = _ := zk2 (hI 71);have e72 : X 72 = _ := zk2 (hI 72);have q1 := HBD.out.1;have q2 := HBD.out.2.1;go_simp;refine zm1 hK ((.pointer (some ⟨blk,p * 3,none⟩))) ?_;simp [frame220,Act.put, *]
      ·have e73 : X 73 = _ := zk2 (hI 73);obtain ⟨c0,c1,c2⟩ := HCX.out vs w' ((hpk 0 (by decide)).2 (by kernel_rfl)) hph;go_simp;refine zm1 hK ((.agg #[.int .i64 xi,.int .i64 xs,.int .i64 xz])) ?_;simp [frame220,Act.put, *]
      ·have e61 : X 61 = _ := zk2 (hI 61);have e62 : X 62 = _ := zk2 (hI 62);have q1 := HBD.out.1;have q2 := HBD.out.2.1;go_simp;refine zm1 hK ((.pointer (some ⟨blk,p * 3,none⟩))) ?_;simp [frame220,Act.put, *]
      ·have e63 : X 63 = _ := zk2 (hI 63);have e65 : X 65 = _ := zk2 (hI 65);have q1 := HBD.out.2.2.1;have q2 := HBD.out.2.2.2;go_simp;refine zm1 hK ((.pointer (some ⟨blk,q * 3,none⟩))) ?_;simp [frame220,Act.put, *]
     ·intro i o ho hmi vs X w' hqi hql hph hX hI hF K hK;rcases vs with _ | ⟨v0,_ | ⟨v1,_⟩⟩
      ·obtain rfl : 15 = i := hqi;obtain rfl := Option.some.inj ho;have e70 : X 70 = _ := zk2 (hI 70);have e75 : X 75 = _ := zk2 (hI 75);obtain ⟨⟨⟨_,c0⟩,⟨_,c1⟩,⟨_,c2⟩⟩,zz⟩ := HS0.out w' hph;have z0 := zz (p * 3);have z1 := zz (p * 3 + 1);have z2 := zz (p * 3 + 2);unfold wpOp;simp only [ho];rw [if_pos (by rfl)];left;rw [frame220];go_simp;refine metK (hK.out undef _ (show PhXE w1 blk p q ⟨xi,xs,xz⟩ ⟨yi,ys,yz⟩ [undef] _ from ⟨w',hph,zb⟩) trivial) ?_;simp [frame220,Act.put, *]
      ·obtain rfl : 17 = i := hqi;obtain rfl := Option.some.inj ho;have e74 : X 74 = _ := zk2 (hI 74);have e76 : X 76 = _ := zk2 (hI 76);obtain ⟨w2,hE1,hw1⟩ := id hph;obtain ⟨⟨⟨_,c0⟩,⟨_,c1⟩,⟨_,c2⟩⟩,zz⟩ := HS1.out w2 w' hE1 hw1;have z0 := zz (q * 3);have z1 := zz (q * 3 + 1);have z2 := zz (q * 3 + 2);unfold wpOp;simp only [ho];rw [if_pos (by rfl)];left;rw [frame220];go_simp;refine metK (hK.out undef _ (show PhXE w1 blk p q ⟨xi,xs,xz⟩ ⟨yi,ys,yz⟩ [v0,undef] _ from ⟨w2,w',hE1,hw1,zb⟩) trivial) ?_;simp [frame220,Act.put, *]
      ·simp at hql <;> omega
     ·intro vs X w' hlen hph hX hI;have e61 : X 61 = _ := zk4 (hI 61);have e62 : X 62 = _ := zk4 (hI 62);have e63 : X 63 = _ := zk4 (hI 63);have e64 : X 64 = _ := zk4 (hI 64);have e65 : X 65 = _ := zk4 (hI 65);have e66 : X 66 = _ := zk4 (hI 66);have e67 : X 67 = _ := zk4 (hI 67);have e68 : X 68 = _ := zk4 (hI 68);have e69 : X 69 = _ := zk4 (hI 69);have e70 : X 70 = _ := zk4 (hI 70);have e71 : X 71 = _ := zk4 (hI 71);have e72 : X 72 = _ := zk4 (hI 72);have e73 : X 73 = _ := zk4 (hI 73);have e74 : X 74 = _ := zk4 (hI 74);have e75 : X 75 = _ := zk4 (hI 75);have e76 : X 76 = _ := zk4 (hI 76);rcases vs with _ | ⟨v0,_ | ⟨v1,_ | ⟨vz,vs⟩⟩⟩
      ·simp at hlen
      ·simp at hlen
      rotate_left
      ·simp at hlen
      clear hX hI hlen;simp only [overF,List.foldl_cons,List.foldl_nil,List.setIfInBounds_toArray,List.set_cons_succ,List.set_cons_zero,e61,e62,e63,e64,e65,e66,e67,e68,e69,e70,e71,e72,e73,e74,e75,e76];obtain ⟨w2,w3,hE1,hE2,hE3⟩ := hph;clear e61 e62 e63 e64 e65 e66 e67 e68 e69 e70 e71 e72 e73 e74 e75 e76;have hr2 := ((((HR.out.ext hE1).set p ⟨yi,ys,yz⟩).ext hE2).set q ⟨xi,xs,xz⟩).ext hE3;have hk2 := (((HK.out.trans (Keeps.of_ext (X := fun b => b = blk) hE1)).trans (keeps_set3 w2 blk p ⟨yi,ys,yz⟩)).trans ((Keeps.of_ext (X := fun b => b = blk) hE2).trans (keeps_set3 w3 blk q ⟨xi,xs,xz⟩))).trans (Keeps.of_ext (X := fun b => b = blk) hE3);have hr3 : RowE w' blk cap (swp d1 p q) := (by unfold swp; rw [HX0.out,HY0.out]; exact hr2);have HR2 := hide hr3;have HK2 := hide hk2;generalize w' = W6 at HR2 HK2 ⊢;clear hr2 hr3 hk2 HCX HCY HS0 HS1 hE1 hE2 hE3;have hwp := HWP.out;go_wp2
      go_roundw
      case rel =>
       have hq := HQ.out;subst hq;refine ⟨p + 1,swp d1 p (p + 1),by omega,by omega,by go_num,HR2.out,permIn_trans _ _ _ _ _ HP.out (swp_permIn _ _ _ _ _ hp1 (by omega) (by omega) (by omega) (by omega)),hide (fun t => ?_),HK2.out⟩;rw [swp_get d1 hpd hqd,HV.out,HV.out,HV.out]
       repeat' split
       all_goals first | rfl | (exfalso; omega) | (congr 1; omega)
      case measure => (simp [intOf]) <;> omega
    ·obtain rfl : p = i - 1 := by omega
     have HZ := hide (show ∃ d',RowE w1 blk cap d' /\ PermIn a b d d' /\ SortedIn ltE a b d' /\ Keeps (fun q => q = blk) w w1 from ⟨d1,HR.out,HP.out,ins_first swoE (by omega) (by omega) (by rw [HMM.out]; exact HS.out) H1.out H2.out (fun t => by
      rw [HV.out t];by_cases e : a <= t /\ t < i - 1
      ·rw [if_pos e,if_pos (by omega)]
      ·rw [if_neg e,if_neg (show ¬ (a <= t /\ t + 1 < i) by omega)];by_cases e2 : t = i - 1
       ·rw [if_pos e2,if_pos (by omega)]
       ·rw [if_neg e2,if_neg (by omega)]),HK.out⟩)
     clear hlp HR HP HV HK;go_wp2
     (try simp only [Exit.inBlock,Exit.then])
     refine bodyPost_ret (results_none rfl _ _ _) rfl ?_;exact ⟨rfl,HZ.out⟩
end Go.Proofs.YtoaiakhnnfbkdaaGreatDoor
