import Derived.Shelf.SlSortCmp.NoneTotal
import Derived.Shelf.SlSortCmp.InsertionK
import Derived.Ground.SlsfProg
import Derived.StillTailTactics
import Derived.Sort.Grow
import Derived.Test.YtoaiakhnnfbkdaaGreatDoorZx
import Derived.Test.YtoaiakhnnfbkdaaGreatDoorRtK
set_option maxRecDepth 100000
set_option maxHeartbeats 32000000
namespace Go.Proofs
open Go.Shelf
def Tryz.lInsE_ren : Go.Shelf.Ren := ⟨fun | 20 => 157 | n => n, fun | 24 => 53 | 22 => 24 | 3 => 3 | 25 => 156 | 4 => 4 | 0 => 0 | n => n, fun | n => n⟩
theorem Tryz.lInsE : Go.Proofs.SlLaysF0.n20 Tryz.prog Tryz.lInsE_ren := {
  mixed := by kernel_rfl
  f20 := ⟨Tryz.f157.name, by decide, Tryz.func157.trans (congrArg some (by kernel_rfl))⟩
  t0 := Tryz.underlying0
  a0 := Tryz.isAgg0
  z0 := Tryz.sizeOf0
  v0 := Tryz.zeroValue0
  t3 := Tryz.underlying3
  a3 := Tryz.isAgg3
  z3 := Tryz.sizeOf3
  v3 := Tryz.zeroValue3
  t4 := Tryz.underlying4
  a4 := Tryz.isAgg4
  z4 := Tryz.sizeOf4
  v4 := Tryz.zeroValue4
  t22 := Tryz.underlying24
  a22 := Tryz.isAgg24
  z22 := Tryz.sizeOf24
  v22 := Tryz.zeroValue24
  t25 := Tryz.underlying156
  a25 := Tryz.isAgg156
  z25 := Tryz.sizeOf156
  v25 := Tryz.zeroValue156 }
end Go.Proofs
namespace Go.Proofs.YtoaiakhnnfbkdaaGreatDoor
open Go.ChangeShapes Go.WideShapes Go.ChangeAt Go.RowKit Go.Lib Go.Shelf Go.Sort
instance instEndS : Inhabited EndD := ⟨⟨0,0,0⟩⟩
def cfE (x y : EndD) : Int := if x.id < y.id then -1 else if y.id < x.id then 1 else 0
theorem ltOf_cfE (x y : EndD) : ltOf cfE x y = decide (x.id < y.id) := by
 unfold ltOf cfE;split
 ·simp [*]
 ·split <;> simp [*]
theorem cmpE_any (x y : Int) (w : World) : Calls Tryz.prog 61 #[.int .i64 x,.int .i64 y] w fun e w' => e = .returned (.int .i64 (if x < y then -1 else if y < x then 1 else 0)) /\ w' = w := by
 by_cases h1 : x < y
 ·have h2 : ¬ y < x := by omega
  rw [if_pos h1]
  go_enter Tryz.func61,Tryz.ntmps61
  go_wp2;go_ret;exact ⟨rfl,rfl⟩
 ·rw [if_neg h1];by_cases h2 : y < x
  ·rw [if_pos h2]
   go_enter Tryz.func61,Tryz.ntmps61
   go_wp2;go_ret;exact ⟨rfl,rfl⟩
  ·rw [if_neg h2]
   go_enter Tryz.func61,Tryz.ntmps61
   go_wp2;go_ret;exact ⟨rfl,rfl⟩
theorem closE_any (x y : EndD) (W : World) : Calls Tryz.prog 95 #[.agg #[.int .i64 x.id,.int .i64 x.svc,.int .i64 x.zone],.agg #[.int .i64 y.id,.int .i64 y.svc,.int .i64 y.zone]] W fun e w' => e = .returned (.int .i64 (cfE x y)) /\ ∃ q os',w' = Go.Sort.grow (W.drewN q) os' := by
 obtain ⟨x1,x2,x3⟩ := x;obtain ⟨y1,y2,y3⟩ := y;have hc := cmpE_any x1 y1;have hf : (if x1 < y1 then -1 else if y1 < x1 then 1 else 0) = cfE ⟨x1,x2,x3⟩ ⟨y1,y2,y3⟩ := rfl;rw [hf] at hc;generalize cfE ⟨x1,x2,x3⟩ ⟨y1,y2,y3⟩ = r at hc ⊢;have HC := hide hc;clear hc hf
 go_enter Tryz.func95,Tryz.ntmps95
 go_wp2_with (go_at_call 61; refine (HC.out _).mono ?_; rintro e w6 ⟨rfl,rfl⟩)
 all_goals go_ret
 all_goals exact ⟨rfl,0,#[.cells #[.int .i64 x1,.int .i64 x2,.int .i64 x3] 53,.cells #[.int .i64 y1,.int .i64 y2,.int .i64 y3] 53],by rw [Go.Sort.alloc_eq_grow,Go.Sort.alloc_eq_grow,Go.Sort.grow_grow]; rfl⟩
theorem encE_one1 (s : EndD) : ∀ u ∈ encE s,u.oneCell' = true := by
 intro u hu;simp [encE] at hu;rcases hu with rfl | rfl | rfl <;> rfl
theorem swoE : SWO (ltOf cfE) where
 irrefl x := by rw [ltOf_cfE]; simp
 trans x y z h1 h2 := by rw [ltOf_cfE] at *; simp at *; omega
 ntrans x y z h1 h2 := by rw [ltOf_cfE] at *; simp at *; omega
theorem owns_sortK {α : Type} [Inhabited α] {enc : α -> List Value} {k : Nat} (hk : ∀ x,(enc x).length = k) {w : World} {base g cap n : Nat} {T : TypeId} {ps : List α} (h : w.ownsRow base T k (.slice (some ⟨g,0,none⟩) n cap) n (ps.flatMap enc)) (d : Array α) (hd : d.size = n) (m : Nat) (os : Array Obj) :
  (sortWorldK enc k w g 0 m d os).ownsRow base T k (.slice (some ⟨g,0,none⟩) n cap) n (d.toList.flatMap enc) := by
 obtain ⟨h1,h2⟩ := h;refine ⟨by rw [length_flatMap_enc hk]; simp [hd], ?_⟩;rcases h2 with ⟨e0,_⟩ | ⟨g',cap',cur,e0,hb,hg,hnc,hcm,hcs,ht⟩
 ·cases e0
 ·cases e0
  refine .inr ⟨g,cap,putCells id 0 (flatK enc k d) cur,rfl,hb, ?_,hnc,hcm,by simp [putCells,hcs], ?_⟩
  ·have hlt : g < w.heap.size := (zg hg)
   have e1 : (putRowK enc k (Sort.ahead w m) g 0 d).heap[g]? = some (.cells (putCells id 0 (flatK enc k d) cur) T (0,0)) := by
    show ((Sort.ahead w m).heap.modify g _)[g]? = _;rw [Array.getElem?_modify,if_pos rfl];show (w.heap[g]?).map _ = _;rw [hg];rfl
   unfold sortWorldK grow;show (_ ++ os)[g]? = _;rw [Array.getElem?_append_left (zg e1)];exact e1
  ·apply List.ext_getElem?;intro j;have hlen : (d.toList.flatMap enc).length = n * k := (by rw [length_flatMap_enc hk]; simp [hd]);by_cases hj : j < n * k
   ·have hjc : j < cur.size := by rw [hcs]; exact Nat.lt_of_lt_of_le hj (Nat.mul_le_mul_right _ hnc)
    have hk0 : 0 < k := by
     rcases Nat.eq_zero_or_pos k with h0 | h0
     ·subst h0;omega
     ·exact h0
    have hi : j / k < d.size := (by rw [hd]; exact Nat.div_lt_of_lt_mul (by rw [Nat.mul_comm]; exact hj));have he : j / k * k + j % k = j := Nat.div_add_mod' j k;have hjm : j % k < (enc d[j / k]).length := (by rw [hk]; exact Nat.mod_lt _ hk0);have e2 := getElem?_flatMap_enc hk d.toList (j / k) (j % k) d[j / k] ((enc d[j / k])[j % k]) (by simp [hi]) (List.getElem?_eq_getElem hjm);rw [he] at e2;rw [e2,List.getElem?_take_of_lt hj,Array.getElem?_toList];unfold putCells;rw [Array.getElem?_mapIdx,Array.getElem?_eq_getElem hjc,Option.map_some,if_pos ⟨Nat.zero_le _,by rw [size_flatK,hd]; omega⟩,Nat.sub_zero,get_flatK enc k d j (by rw [hd]; exact hj)];simp [getElem!_pos,hi,hjm]
   ·have a1 : (List.take (n * k) (putCells id 0 (flatK enc k d) cur).toList).length <= j := (by rw [List.length_take]; omega);rw [List.getElem?_eq_none a1,List.getElem?_eq_none (by rw [hlen]; omega)]
theorem below_sortK {α : Type} [Inhabited α] {enc : α -> List Value} {k : Nat} {B : Nat} {w0 w : World} {g m : Nat} {d : Array α} {os : Array Obj} (h : Below B w0 w) (hg : B <= g) (hB : B <= w.heap.size) : Below B w0 (sortWorldK enc k w g 0 m d os) := by
 have hb : Below B w0 (putRowK enc k (Sort.ahead w m) g 0 d) := ⟨h.os,h.tape,h.output,by show w0.heap.size <= (w.heap.modify g _).size; rw [Array.size_modify]; exact h.size,fun i hi => by
  show (w.heap.modify g _)[i]? = _;rw [Array.getElem?_modify,if_neg (by omega)]
  exact h.block i hi⟩
 exact ⟨hb.os,hb.tape,hb.output,by unfold sortWorldK grow; show w0.heap.size <= (_ ++ os).size; rw [Array.size_append]; exact Nat.le_trans hb.size (Nat.le_add_right _ _),fun i hi => by
  have h1 := hb.block i hi;unfold sortWorldK grow;show (_ ++ os)[i]? = _
  have hlt : i < (putRowK enc k (Sort.ahead w m) g 0 d).heap.size := by
   show i < (w.heap.modify g _).size;rw [Array.size_modify];omega
  rw [Array.getElem?_append_left hlt]
  exact h1⟩
theorem holdsK_own' {α : Type} [Inhabited α] {enc : α -> List Value} {k : Nat} (hk : ∀ x,(enc x).length = k) (hk0 : 0 < k) {w : World} {base g cap n : Nat} {e : TypeId} {ps : List α} (h : w.ownsRow base e k (.slice (some ⟨g,0,none⟩) n cap) n (ps.flatMap enc)) : HoldsK enc k w g 0 ps.toArray := by
 intro j hj;have hj' : j < ps.length * k := by simpa [size_flatK] using hj
 have hi : j / k < ps.length := Nat.div_lt_of_lt_mul (by rw [Nat.mul_comm]; exact hj');have he : j / k * k + j % k = j := Nat.div_add_mod' j k;refine ⟨?_, ?_⟩
 ·have hg := get_flatK enc k ps.toArray j (by simpa using hj');have hm : j % k < (enc ps[j / k]).length := by rw [hk]; exact Nat.mod_lt _ hk0
  have h1 := getElem?_flatMap_enc hk ps (j / k) (j % k) ps[j / k] ((enc ps[j / k])[j % k]) (List.getElem?_eq_getElem hi) (List.getElem?_eq_getElem _);rw [he] at h1;have h2 := h.cells (g := g) (by simp [Value.ownBlock]) j _ h1;rw [add_cell] at h2;rw [Nat.zero_add,h2];show _ = some (flatK enc k ps.toArray)[j]!;rw [hg];simp [getElem!_pos,hi,List.getElem?_eq_getElem hm]
 ·rcases h.2 with ⟨e0,_⟩ | ⟨g',cap',cur,e0,hb,hg,_⟩
  ·cases e0
  ·cases e0
   simp [World.frozen?,hg]
theorem stableE_any (g cap n : Nat) (d : Array EndD) (w : World) (hH : HoldsK encE 3 w g 0 d) (hg : g < w.heap.size) (hdn : d.size = n) (hsz : n <= 19) :
  Calls Tryz.prog 134 #[.slice (some ⟨g,0,none⟩) n cap,.int .i64 n,.func (.func 95) #[] #[]] w fun e w' => e = .returned (.tuple #[]) /\ ∃ q os,w' = sortWorldK encE 3 w g 0 q (Go.Sort.insertionSort (ltOf cfE) d 0 d.size) os := by
 have eg : ∀ args w,(callFunc 95 args).run Tryz.prog w = .ok (.enter 95 args) w := enters_of Tryz.func95 (by kernel_rfl) rfl;have hcall := AnyQ.insertionSortCmpFunc Tryz.lInsE 3 Tryz.isAgg53 Tryz.sizeOf53 encE encE_len encE_one1 cfE 95 #[] g 0 cap 0 d.size d w eg (fun _ _ _ _ x y => closE_any x y _) hH hg (Nat.zero_le _) (Nat.le_refl _) (by omega);rw [hdn] at hcall;have HC := hide hcall;have hn1 : ¬ (20 : Int) <= n := by omega
 have hn2 : ¬ (20 : Int) < n := by omega
 rw [hdn];clear hcall eg hH hg hdn hsz
 go_enter Tryz.func134,Tryz.ntmps134
 go_wp2_with fail
 go_loopw [7,8] (fun va vb wr => va = .int .i64 0 /\ vb = .int .i64 20 /\ w = wr) (fun _ _ _ => 0)
 case atStart => exact ⟨rfl,rfl,rfl⟩
 case round =>
  obtain ⟨rfl,rfl,rfl⟩ := hrel
  go_wp2_with fail
  refine HC.out.mono ?_;rintro e w1 ⟨rfl,hq⟩;have HQ := hide hq;clear hq
  go_wp2_with fail
  go_loopw [6] (fun v6 wr => v6 = .int .i64 20 /\ wr = w1) (fun _ _ => 0)
  case atStart => exact ⟨rfl,rfl⟩
  case round =>
   obtain ⟨rfl,rfl⟩ := hrel;go_wp2;go_end0;exact ⟨rfl,HQ.out⟩
theorem ssortE0_any (a : Option Addr) (cap : Nat) (g : Nat) (cb : Array Value) (w : World) :
  Calls Tryz.prog 94 #[.slice a 0 cap,.func (.func g) #[] cb] w fun e w' => e = .returned (.tuple #[]) /\ w = w' := by
 have h1 : Calls Tryz.prog 157 #[.slice a 0 cap,.int .i64 0,.int .i64 0,.func (.func g) #[] cb] w fun e w' => e = .returned (.tuple #[]) /\ w = w' := by
  go_enter Tryz.func157,Tryz.ntmps157
  go_wp2_with fail
  go_loopw [8] (fun v wr => v = .int .i64 1 /\ w = wr) (fun _ _ => 0)
  case atStart => exact ⟨rfl,rfl⟩
  case round =>
   obtain ⟨rfl,rfl⟩ := hrel;go_wp2;go_end0;exact ⟨rfl,rfl⟩
 have H1 := hide h1;clear h1
 have h2 : Calls Tryz.prog 134 #[.slice a 0 cap,.int .i64 0,.func (.func g) #[] cb] w fun e w' => e = .returned (.tuple #[]) /\ w = w' := by
  go_enter Tryz.func134,Tryz.ntmps134
  go_wp2_with fail
  go_loopw [7,8] (fun va vb wr => va = .int .i64 0 /\ vb = .int .i64 20 /\ w = wr) (fun _ _ _ => 0)
  case atStart => exact ⟨rfl,rfl,rfl⟩
  case round =>
   obtain ⟨rfl,rfl,rfl⟩ := hrel
   go_wp2_with fail
   refine H1.out.mono ?_;rintro e w1 ⟨rfl,rfl⟩
   go_wp2_with fail
   go_loopw [6] (fun v6 wr => v6 = .int .i64 20 /\ w = wr) (fun _ _ => 0)
   case atStart => exact ⟨rfl,rfl⟩
   case round =>
    obtain ⟨rfl,rfl⟩ := hrel;go_wp2;go_end0;exact ⟨rfl,rfl⟩
 have H2 := hide h2;clear h2
 go_enter Tryz.func94,Tryz.ntmps94
 go_wp2_with fail
 refine H2.out.mono ?_;rintro e w1 ⟨rfl,rfl⟩;go_wp2;go_end0;exact ⟨rfl,rfl⟩
theorem ssortE_any {base : Nat} {v : Value} {n : Nat} {ps : List EndD} (w : World) (h : w.ownsRow base 53 3 v n (ps.flatMap encE)) (hn : n <= 19) (hb : base <= w.heap.size) :
  Calls Tryz.prog 94 #[v,.func (.func 95) #[] #[]] w fun e w' => e = .returned (.tuple #[]) /\ ∃ s : List EndD,s.Perm ps /\ s.Pairwise (fun x y => x.id <= y.id) /\ w'.ownsRow base 53 3 v n (s.flatMap encE) /\ Below base w w' := by
 have hl : ps.length = n := by
  have := h.1;rw [length_flatMap_enc encE_len] at this;omega
 rcases h.2 with ⟨rfl,h0⟩ | ⟨g,cap,cur,rfl,hbg,hg,hnc,hcm,hcs,_⟩
 ·subst h0;have hz : ps = [] := List.eq_nil_of_length_eq_zero hl;subst hz;refine (ssortE0_any none 0 _ _ w).mono ?_;rintro e w' ⟨rfl,rfl⟩;exact ⟨rfl,[],List.Perm.refl _,List.Pairwise.nil,h,zb⟩
 ·subst hl;have hlt := (zg hg);have hc := hide (stableE_any g cap ps.length ps.toArray w (holdsK_own' encE_len (by decide) h) hlt (by simp) hn);obtain ⟨⟨p1,-,p3⟩,hs⟩ := insertionSort_holds (lt := ltOf cfE) swoE ps.toArray 0 ps.toArray.size (Nat.zero_le _) (Nat.le_refl _);have hsz : (Go.Sort.insertionSort (ltOf cfE) ps.toArray 0 ps.toArray.size).size = ps.length := by simpa using p1
  have HW := hide (fun m os => owns_sortK encE_len h (Go.Sort.insertionSort (ltOf cfE) ps.toArray 0 ps.toArray.size) hsz m os);have HBW := hide (fun m os => below_sortK (enc := encE) (k := 3) (m := m) (d := Go.Sort.insertionSort (ltOf cfE) ps.toArray 0 ps.toArray.size) (os := os) (Below.refl base w) hbg hb)
  have hperm : (Go.Sort.insertionSort (ltOf cfE) ps.toArray 0 ps.toArray.size).toList.Perm ps := by
   have e : (Go.Sort.insertionSort (ltOf cfE) ps.toArray 0 ps.toArray.size).toList.take ps.length = (Go.Sort.insertionSort (ltOf cfE) ps.toArray 0 ps.toArray.size).toList := List.take_of_length_le (by rw [Array.length_toList,hsz]; exact Nat.le_refl _);have p4 := p3;simp at p4;rw [<- e];simpa using p4
  have hsrt : (Go.Sort.insertionSort (ltOf cfE) ps.toArray 0 ps.toArray.size).toList.Pairwise (fun x y => x.id <= y.id) := by
   rw [List.pairwise_iff_getElem];intro i j hi hj hij;have hi' : i < (Go.Sort.insertionSort (ltOf cfE) ps.toArray 0 ps.toArray.size).size := (by simpa using hi);have hj' : j < (Go.Sort.insertionSort (ltOf cfE) ps.toArray 0 ps.toArray.size).size := (by simpa using hj);have h2 := hs i j (Nat.zero_le _) hij (by rw [hsz] at hj'; simpa using hj');rw [getElem!_pos _ i hi',getElem!_pos _ j hj',ltOf_cfE] at h2;simpa using h2
  have HP := hide hperm;have HS := hide hsrt;generalize Go.Sort.insertionSort (ltOf cfE) ps.toArray 0 ps.toArray.size = S at *;clear h hlt hg hcs p1 p3 hs hsz hperm hsrt
  go_enter Tryz.func94,Tryz.ntmps94
  go_wp2_with fail
  refine hc.out.mono ?_;rintro e w1 ⟨rfl,q,os,rfl⟩;go_wp2;go_end0;exact ⟨rfl,S.toList,HP.out,HS.out,HW.out _ _,HBW.out _ _⟩
end Go.Proofs.YtoaiakhnnfbkdaaGreatDoor
