import Derived.Test.YtoaiakhnnfbkdaaGreatDoorSyF
set_option maxRecDepth 100000
set_option maxHeartbeats 32000000
namespace Go.Proofs.YtoaiakhnnfbkdaaGreatDoor
open Go.ChangeShapes Go.WideShapes Go.ChangeAt Go.RowKit Go.Lib Go.Shelf Go.Maps Go.Sort
theorem sorted_ahead {lt : EndD -> EndD -> Bool} {a b x y : Nat} {d1 d2 : Array EndD} (p : PermIn a b d1 d2) (h : y <= a) (s : SortedIn lt x y d1) : SortedIn lt x y d2 := by
 intro i j hi hij hj;rw [p.2.1 i (.inl (by omega)),p.2.1 j (.inl (by omega))];exact s i j hi hij hj
section
variable {w : World} {g cap : Nat} {d d2 : Array EndD}
theorem RowE.holds (h : RowE w g cap d) : HoldsK encE 3 w g 0 d := by
 have hf := h.frozen;have hc := fun i hi => h.cell i hi;intro j hj;have hj' : j < d.size * 3 := by simpa [size_flatK] using hj
 refine ⟨?_,hf _⟩;have hi : j / 3 < d.size := by omega
 have hg := get_flatK encE 3 d j hj';obtain ⟨c0,c1,c2⟩ := hc (j / 3) hi;show w.cell? ⟨g,0 + j,none⟩ = some (flatK encE 3 d)[j]!;rw [hg,Nat.zero_add];have e3 : j % 3 = 0 \/ j % 3 = 1 \/ j % 3 = 2 := by omega
 rcases e3 with e | e | e
 ·rw [show j / 3 * 3 = j by omega] at c0;rw [e,c0];simp [encE]
 ·rw [show j / 3 * 3 + 1 = j by omega] at c1;rw [e,c1];simp [encE]
 ·rw [show j / 3 * 3 + 2 = j by omega] at c2;rw [e,c2];simp [encE]
theorem sortK_heap (m : Nat) (os : Array Obj) (cur : Array Value) (T : TypeId) (hg : w.heap[g]? = some (.cells cur T (0,0))) : (sortWorldK encE 3 w g 0 m d2 os).heap[g]? = some (.cells (putCells id 0 (flatK encE 3 d2) cur) T (0,0)) := by
 have e1 : (putRowK encE 3 (Sort.ahead w m) g 0 d2).heap[g]? = some (.cells (putCells id 0 (flatK encE 3 d2) cur) T (0,0)) := by
  show ((Sort.ahead w m).heap.modify g _)[g]? = _;rw [Array.getElem?_modify,if_pos rfl];show (w.heap[g]?).map _ = _;rw [hg];rfl
 unfold sortWorldK grow;show (_ ++ os)[g]? = _;rw [Array.getElem?_append_left (zg e1)];exact e1
theorem RowE.sortK (h : RowE w g cap d) (hs : d2.size = d.size) (m : Nat) (os : Array Obj) : RowE (sortWorldK encE 3 w g 0 m d2 os) g cap d2 := by
 obtain ⟨cur,hg,hcs,hdc,h4⟩ := h;refine ⟨_,sortK_heap m os cur _ hg,by simp [putCells,hcs],by omega,fun i hi => ?_⟩
 have K : ∀ j,j < d2.size * 3 -> (putCells id 0 (flatK encE 3 d2) cur)[j]? = some ((encE d2[j / 3]!)[j % 3]!) := fun j hj => by
  have hjc : j < cur.size := by omega
  unfold putCells;rw [Array.getElem?_mapIdx,Array.getElem?_eq_getElem hjc,Option.map_some,if_pos ⟨Nat.zero_le _,by rw [size_flatK]; omega⟩,Nat.sub_zero,get_flatK encE 3 d2 j hj];rfl
 refine ⟨?_, ?_, ?_⟩
 ·rw [K _ (by omega),show i * 3 / 3 = i by omega,show i * 3 % 3 = 0 by omega];simp [encE]
 ·rw [K _ (by omega),show (i * 3 + 1) / 3 = i by omega,show (i * 3 + 1) % 3 = 1 by omega];simp [encE]
 ·rw [K _ (by omega),show (i * 3 + 2) / 3 = i by omega,show (i * 3 + 2) % 3 = 2 by omega];simp [encE]
theorem keeps_sortK (m : Nat) (os : Array Obj) : Keeps (fun q => q = g) w (sortWorldK encE 3 w g 0 m d2 os) := by
 refine ⟨rfl,rfl,rfl, ?_,fun k hk hne => ?_⟩
 ·unfold sortWorldK grow;show w.heap.size <= (_ ++ os).size;rw [Array.size_append];refine Nat.le_trans ?_ (Nat.le_add_right _ _);show w.heap.size <= (w.heap.modify g _).size;rw [Array.size_modify];exact Nat.le_refl _
 ·unfold sortWorldK grow;show (_ ++ os)[k]? = _
  have hlt : k < (putRowK encE 3 (Sort.ahead w m) g 0 d2).heap.size := by
   show k < (w.heap.modify g _).size;rw [Array.size_modify];exact hk
  rw [Array.getElem?_append_left hlt];show (w.heap.modify g _)[k]? = _;rw [Array.getElem?_modify,if_neg (fun e => hne e.symm)]
end
theorem insE_any (g n cap : Nat) (d : Array EndD) (a b : Nat) (w : World) (h : RowE w g cap d) (hn : d.size = n) (hab : a <= b) (hb : b <= n) (hn6 : n <= 1000000) :
  Calls Tryz.prog 157 #[.slice (some ⟨g,0,none⟩) n cap,.int .i64 a,.int .i64 b,.func (.func 95) #[] #[]] w fun e w' => e = .returned (.tuple #[]) /\ ∃ d',RowE w' g cap d' /\ PermIn a b d d' /\ SortedIn ltE a b d' /\ Keeps (fun q => q = g) w w' := by
 have eg : ∀ args w,(callFunc 95 args).run Tryz.prog w = .ok (.enter 95 args) w := enters_of Tryz.func95 (by kernel_rfl) rfl;have hcall := AnyQ.insertionSortCmpFunc Tryz.lInsE 3 Tryz.isAgg53 Tryz.sizeOf53 encE encE_len encE_one1 cfE 95 #[] g 0 cap a b d w eg (fun _ _ _ _ x y => closE_any x y _) h.holds h.lt hab (by omega) (by omega);rw [hn] at hcall;obtain ⟨hp,hs⟩ := insertionSort_holds (lt := ltE) swoE d a b hab (by omega);refine hcall.mono ?_;rintro e w' ⟨rfl,q,os,rfl⟩;exact ⟨rfl,_,h.sortK hp.1 q os,hp,hs,keeps_sortK q os⟩
theorem stable39_any (g cap n : Nat) (d : Array EndD) (w : World) (h : RowE w g cap d) (hn : d.size = n) (h20 : 20 <= n) (h39 : n <= 39) :
  Calls Tryz.prog 134 #[.slice (some ⟨g,0,none⟩) n cap,.int .i64 n,.func (.func 95) #[] #[]] w fun e w' => e = .returned (.tuple #[]) /\ ∃ d',RowE w' g cap d' /\ PermIn 0 n d d' /\ SortedIn ltE 0 n d' /\ Keeps (fun q => q = g) w w' := by
 have H := hide h;have hz1 : (20 : Int) <= (n : Int) := by omega
 have hz2 : ¬ (40 : Int) <= (n : Int) := by omega
 have hz3 : ¬ (40 : Int) < (n : Int) := by omega
 clear h
 go_enter Tryz.func134,Tryz.ntmps134
 go_wp2_with fail
 go_loopw [7,8] (fun v7 v8 wr => (v7 = .int .i64 0 /\ v8 = .int .i64 20 /\ Hid (w = wr)) \/ (v7 = .int .i64 20 /\ v8 = .int .i64 40 /\ Hid (∃ d1,RowE wr g cap d1 /\ PermIn 0 n d d1 /\ SortedIn ltE 0 20 d1 /\ Keeps (fun q => q = g) w wr))) (fun _ v8 _ => 60 - (intOf v8).toNat)
 case atStart => exact .inl ⟨rfl,rfl,rfl⟩
 case round =>
  rcases hrel with ⟨rfl,rfl,hw⟩ | ⟨rfl,rfl,hP⟩
  ·obtain rfl := hw.out;have HC := hide (insE_any g n cap d 0 20 w H.out hn (by decide) h20 (by omega));clear hw
   go_wp2_with fail
   refine HC.out.mono ?_;rintro e w5 ⟨rfl,d1,hr,hp,hs,hk⟩;have HZ := hide (show ∃ d1,RowE w5 g cap d1 /\ PermIn 0 n d d1 /\ SortedIn ltE 0 20 d1 /\ Keeps (fun q => q = g) w w5 from ⟨d1,hr,permIn_mono _ _ 0 20 0 n (Nat.le_refl _) h20 (by omega) hp,hs,hk⟩);clear hr hp hs hk HC;go_wp2
   go_roundw
   case rel => exact .inr ⟨rfl,rfl,HZ.out⟩
   case measure => (simp [intOf]) <;> omega
  ·obtain ⟨d1,hr1,hp1,hs1,hk1⟩ := hP.out;have hd1 : d1.size = n := hp1.1.trans hn;have HC := hide (insE_any g n cap d1 20 n wr hr1 hd1 h20 (Nat.le_refl _) (by omega));have HP1 := hide hp1;have HS1 := hide hs1;have HK1 := hide hk1;clear hP hr1 hp1 hs1 hk1
   go_wp2_with fail
   refine HC.out.mono ?_;rintro e w5 ⟨rfl,d2,hr,hp,hs,hk⟩;have HR2 := hide hr;have HP2 := hide (permIn_trans _ _ _ _ _ HP1.out (permIn_mono _ _ 20 n 0 n (by decide) (Nat.le_refl _) (by omega) hp));have HA := hide (sorted_ahead hp (Nat.le_refl _) HS1.out);have HB := hide hs;have HK2 := hide (HK1.out.trans hk);have hd2 : d2.size = n := hp.1.trans hd1;clear hr hp hs hk HC HP1 HS1 HK1
   go_wp2_with fail
   go_loopw [6] (fun v6 wr => (v6 = .int .i64 20 /\ Hid (w5 = wr)) \/ (v6 = .int .i64 40 /\ Hid (∃ d3,RowE wr g cap d3 /\ PermIn 0 n d d3 /\ SortedIn ltE 0 n d3 /\ Keeps (fun q => q = g) w wr))) (fun v6 _ => 60 - (intOf v6).toNat)
   case atStart => exact .inl ⟨rfl,rfl⟩
   case round =>
    rcases hrel with ⟨rfl,hw⟩ | ⟨rfl,hP⟩
    ·obtain rfl := hw.out;clear hw;by_cases e20 : n = 20
     ·have hz5 : ¬ (20 : Int) < (n : Int) := (by omega);have HZ := hide (show ∃ d',RowE w5 g cap d' /\ PermIn 0 n d d' /\ SortedIn ltE 0 n d' /\ Keeps (fun q => q = g) w w5 from ⟨d2,HR2.out,HP2.out,by rw [e20]; exact HA.out,HK2.out⟩);clear e20;go_wp2;go_end0;exact ⟨rfl,HZ.out⟩
     ·have hz5 : (20 : Int) < (n : Int) := (by omega);have HM := hide (symE_any g n cap (by omega) n d2 0 20 n w5 HR2.out hd2 (by omega) (by decide) (by omega) (Nat.le_refl _) HA.out HB.out)
      go_wp2_with fail
      go_loopw [7,8] (fun v7 v8 wr => v7 = .int .i64 0 /\ v8 = .int .i64 40 /\ Hid (w5 = wr)) (fun _ _ _ => 0)
      case atStart => exact ⟨rfl,rfl,rfl⟩
      case round =>
       obtain ⟨rfl,rfl,hw⟩ := hrel;obtain rfl := hw.out;clear hw
       go_wp2_with fail
       refine HM.out.mono ?_;rintro e w6 ⟨rfl,d3,hr,hp,hs,hk⟩;have HZ := hide (show ∃ d3,RowE w6 g cap d3 /\ PermIn 0 n d d3 /\ SortedIn ltE 0 n d3 /\ Keeps (fun q => q = g) w w6 from ⟨d3,hr,permIn_trans _ _ _ _ _ HP2.out hp,hs,HK2.out.trans hk⟩);clear hr hp hs hk HM;go_wp2
       go_roundw
       case rel => exact .inr ⟨rfl,HZ.out⟩
       case measure => (simp [intOf]) <;> omega
    ·have HZ := hide hP.out;clear hP;go_wp2;go_end0;exact ⟨rfl,HZ.out⟩
theorem stable40_any (g cap : Nat) (d : Array EndD) (w : World) (h : RowE w g cap d) (hn : d.size = 40) :
  Calls Tryz.prog 134 #[.slice (some ⟨g,0,none⟩) 40 cap,.int .i64 40,.func (.func 95) #[] #[]] w fun e w' => e = .returned (.tuple #[]) /\ ∃ d',RowE w' g cap d' /\ PermIn 0 40 d d' /\ SortedIn ltE 0 40 d' /\ Keeps (fun q => q = g) w w' := by
 have H := hide h;clear h
 go_enter Tryz.func134,Tryz.ntmps134
 go_wp2_with fail
 go_loopw [7,8] (fun v7 v8 wr => (v7 = .int .i64 0 /\ v8 = .int .i64 20 /\ Hid (w = wr)) \/ (v7 = .int .i64 20 /\ v8 = .int .i64 40 /\ Hid (∃ d1,RowE wr g cap d1 /\ PermIn 0 40 d d1 /\ SortedIn ltE 0 20 d1 /\ Keeps (fun q => q = g) w wr)) \/ (v7 = .int .i64 40 /\ v8 = .int .i64 60 /\ Hid (∃ d1,RowE wr g cap d1 /\ PermIn 0 40 d d1 /\ SortedIn ltE 0 20 d1 /\ SortedIn ltE 20 40 d1 /\ Keeps (fun q => q = g) w wr))) (fun _ v8 _ => 80 - (intOf v8).toNat)
 case atStart => exact .inl ⟨rfl,rfl,rfl⟩
 case round =>
  rcases hrel with ⟨rfl,rfl,hw⟩ | ⟨rfl,rfl,hP⟩ | ⟨rfl,rfl,hP⟩
  ·obtain rfl := hw.out;have HC := hide (insE_any g 40 cap d 0 20 w H.out hn (by decide) (by decide) (by decide));clear hw
   go_wp2_with fail
   refine HC.out.mono ?_;rintro e w5 ⟨rfl,d1,hr,hp,hs,hk⟩;have HZ := hide (show ∃ d1,RowE w5 g cap d1 /\ PermIn 0 40 d d1 /\ SortedIn ltE 0 20 d1 /\ Keeps (fun q => q = g) w w5 from ⟨d1,hr,permIn_mono _ _ 0 20 0 40 (Nat.le_refl _) (by decide) (by omega) hp,hs,hk⟩);clear hr hp hs hk HC;go_wp2
   go_roundw
   case rel => exact .inr (.inl ⟨rfl,rfl,HZ.out⟩)
   case measure => (simp [intOf]) <;> omega
  ·obtain ⟨d1,hr1,hp1,hs1,hk1⟩ := hP.out;have hd1 : d1.size = 40 := hp1.1.trans hn;have HC := hide (insE_any g 40 cap d1 20 40 wr hr1 hd1 (by decide) (by decide) (by decide));have HP1 := hide hp1;have HS1 := hide hs1;have HK1 := hide hk1;clear hP hr1 hp1 hs1 hk1
   go_wp2_with fail
   refine HC.out.mono ?_;rintro e w5 ⟨rfl,d2,hr,hp,hs,hk⟩;have HZ := hide (show ∃ d1,RowE w5 g cap d1 /\ PermIn 0 40 d d1 /\ SortedIn ltE 0 20 d1 /\ SortedIn ltE 20 40 d1 /\ Keeps (fun q => q = g) w w5 from ⟨d2,hr,permIn_trans _ _ _ _ _ HP1.out (permIn_mono _ _ 20 40 0 40 (by decide) (Nat.le_refl _) (by omega) hp),sorted_ahead hp (Nat.le_refl _) HS1.out,hs,HK1.out.trans hk⟩);clear hr hp hs hk HC HP1 HS1 HK1;go_wp2
   go_roundw
   case rel => exact .inr (.inr ⟨rfl,rfl,HZ.out⟩)
   case measure => (simp [intOf]) <;> omega
  ·obtain ⟨d1,hr1,hp1,hs1,ht1,hk1⟩ := hP.out;have hd1 : d1.size = 40 := hp1.1.trans hn;have HC := hide (insE_any g 40 cap d1 40 40 wr hr1 hd1 (by decide) (by decide) (by decide));have HP1 := hide hp1;have HS1 := hide hs1;have HT1 := hide ht1;have HK1 := hide hk1;clear hP hr1 hp1 hs1 ht1 hk1
   go_wp2_with fail
   refine HC.out.mono ?_;rintro e w5 ⟨rfl,d2,hr,hp,hs,hk⟩;have hd2 : d2.size = 40 := hp.1.trans hd1;have HP2 := hide (permIn_trans _ _ _ _ _ HP1.out (permIn_mono _ _ 40 40 0 40 (by decide) (Nat.le_refl _) (by omega) hp));have HK2 := hide (HK1.out.trans hk);have HM := hide (symE_any g 40 cap (by decide) 40 d2 0 20 40 w5 hr hd2 (by decide) (by decide) (by decide) (by decide) (sorted_ahead hp (by decide) HS1.out) (sorted_ahead hp (by decide) HT1.out));clear hr hp hs hk HC HP1 HS1 HT1 HK1
   go_wp2_with fail
   go_loopw [6] (fun v6 wr => (v6 = .int .i64 20 /\ Hid (w5 = wr)) \/ (v6 = .int .i64 40 /\ Hid (∃ d3,RowE wr g cap d3 /\ PermIn 0 40 d d3 /\ SortedIn ltE 0 40 d3 /\ Keeps (fun q => q = g) w wr))) (fun v6 _ => 60 - (intOf v6).toNat)
   case atStart => exact .inl ⟨rfl,rfl⟩
   case round =>
    rcases hrel with ⟨rfl,hw⟩ | ⟨rfl,hP⟩
    ·obtain rfl := hw.out;clear hw
     go_wp2_with fail
     go_loopw [7,8] (fun v7 v8 wr => (v7 = .int .i64 0 /\ v8 = .int .i64 40 /\ Hid (w5 = wr)) \/ (v7 = .int .i64 40 /\ v8 = .int .i64 80 /\ Hid (∃ d3,RowE wr g cap d3 /\ PermIn 0 40 d d3 /\ SortedIn ltE 0 40 d3 /\ Keeps (fun q => q = g) w wr))) (fun _ v8 _ => 80 - (intOf v8).toNat)
     case atStart => exact .inl ⟨rfl,rfl,rfl⟩
     case round =>
      rcases hrel with ⟨rfl,rfl,hw⟩ | ⟨rfl,rfl,hP⟩
      ·obtain rfl := hw.out;clear hw
       go_wp2_with fail
       refine HM.out.mono ?_;rintro e w6 ⟨rfl,d3,hr,hp,hs,hk⟩;have HZ := hide (show ∃ d3,RowE w6 g cap d3 /\ PermIn 0 40 d d3 /\ SortedIn ltE 0 40 d3 /\ Keeps (fun q => q = g) w w6 from ⟨d3,hr,permIn_trans _ _ _ _ _ HP2.out hp,hs,HK2.out.trans hk⟩);clear hr hp hs hk HM;go_wp2
       go_roundw
       case rel => exact .inr ⟨rfl,rfl,HZ.out⟩
       case measure => (simp [intOf]) <;> omega
      ·have HZ := hide hP.out;clear hP;go_wp2
       go_roundw
       case rel => exact .inr ⟨rfl,HZ.out⟩
       case measure => (simp [intOf]) <;> omega
    ·have HZ := hide hP.out;clear hP;go_wp2;go_end0;exact ⟨rfl,HZ.out⟩
theorem stable2_any (g cap n : Nat) (d : Array EndD) (w : World) (h : RowE w g cap d) (hn : d.size = n) (h20 : 20 <= n) (h40 : n <= 40) :
  Calls Tryz.prog 134 #[.slice (some ⟨g,0,none⟩) n cap,.int .i64 n,.func (.func 95) #[] #[]] w fun e w' => e = .returned (.tuple #[]) /\ ∃ d',RowE w' g cap d' /\ PermIn 0 n d d' /\ SortedIn ltE 0 n d' /\ Keeps (fun q => q = g) w w' := by
 by_cases e : n = 40
 ·subst e;exact stable40_any g cap d w h hn
 ·exact stable39_any g cap n d w h hn h20 (by omega)
theorem below_keeps {base g : Nat} {w w' : World} (k : Keeps (fun q => q = g) w w') (hg : base <= g) (hb : base <= w.heap.size) : RowKit.Below base w w' :=
 ⟨k.os,k.tape,k.output,k.size,fun i hi => k.block i (by omega) (fun e => by have e : i = g := e; omega)⟩
theorem ssortE40_any {base : Nat} {v : Value} {n : Nat} {ps : List EndD} (w : World) (h : w.ownsRow base 53 3 v n (ps.flatMap encE)) (hn : n <= 40) (hb : base <= w.heap.size) :
  Calls Tryz.prog 94 #[v,.func (.func 95) #[] #[]] w fun e w' => e = .returned (.tuple #[]) /\ ∃ s : List EndD,s.Perm ps /\ s.Pairwise (fun x y => x.id <= y.id) /\ w'.ownsRow base 53 3 v n (s.flatMap encE) /\ RowKit.Below base w w' := by
 by_cases h19 : n <= 19
 ·exact ssortE_any w h h19 hb
 have hl : ps.length = n := by
  have := h.1;rw [length_flatMap_enc encE_len] at this;omega
 rcases h.2 with ⟨rfl,h0⟩ | ⟨g,cap,cur,rfl,hbg,hg,hnc,hcm,hcs,ht⟩
 ·omega
 ·subst hl;have hlt := (zg hg)
  have hrow : RowE w g cap ps.toArray := by
   refine ⟨cur,hg,hcs,by simpa using hnc,fun i hi => ?_⟩;have hi' : i < ps.length := by simpa using hi
   have K : ∀ t,t < 3 -> cur[i * 3 + t]? = (encE ps[i])[t]? := fun t ht3 => by
    have hj : t < (encE ps[i]).length := (by rw [encE_len]; exact ht3);have e2 := getElem?_flatMap_enc encE_len ps i t ps[i] ((encE ps[i])[t]) (List.getElem?_eq_getElem hi') (List.getElem?_eq_getElem hj);rw [<- ht,List.getElem?_take_of_lt (by omega),Array.getElem?_toList] at e2;rw [e2,List.getElem?_eq_getElem hj]
   have e3 : ps.toArray[i]! = ps[i] := (by rw [getElem!_pos _ i hi]; simp);rw [e3];exact ⟨K 0 (by decide),K 1 (by decide),K 2 (by decide)⟩
  have hc := hide (stable2_any g cap ps.length ps.toArray w hrow (by simp) (by omega) hn);have HB := hide (fun w' (k : Keeps (fun q => q = g) w w') => below_keeps k hbg hb)
  have HO := hide (show ∀ w' d',RowE w' g cap d' -> d'.size = ps.length -> w'.ownsRow base 53 3 (.slice (some ⟨g,0,none⟩) ps.length cap) ps.length (d'.toList.flatMap encE) from fun w' d' hr hd => by
   obtain ⟨cs,k1,k2,k3,k4⟩ := hr;refine ⟨by rw [length_flatMap_enc encE_len]; simp [hd],.inr ⟨g,cap,cs,rfl,hbg,k1,hnc,hcm,k2, ?_⟩⟩;apply List.ext_getElem?;intro j;have hlen : (d'.toList.flatMap encE).length = ps.length * 3 := (by rw [length_flatMap_enc encE_len]; simp [hd]);by_cases hj : j < ps.length * 3
   ·have hi : j / 3 < d'.size := (by omega);have hjm : j % 3 < (encE d'[j / 3]).length := (by rw [encE_len]; omega);have e2 := getElem?_flatMap_enc encE_len d'.toList (j / 3) (j % 3) d'[j / 3] ((encE d'[j / 3])[j % 3]) (by simp [hi]) (List.getElem?_eq_getElem hjm);rw [Nat.div_add_mod'] at e2;rw [List.getElem?_take_of_lt hj,Array.getElem?_toList,e2];obtain ⟨c0,c1,c2⟩ := k4 (j / 3) hi;rw [getElem!_pos d' (j / 3) hi] at c0 c1 c2;have e3 : j % 3 = 0 \/ j % 3 = 1 \/ j % 3 = 2 := (by omega);rcases e3 with e | e | e
    ·rw [show j / 3 * 3 = j by omega] at c0;rw [c0];simp [encE,e]
    ·rw [show j / 3 * 3 + 1 = j by omega] at c1;rw [c1];simp [encE,e]
    ·rw [show j / 3 * 3 + 2 = j by omega] at c2;rw [c2];simp [encE,e]
   ·rw [List.getElem?_eq_none (by rw [List.length_take]; omega),List.getElem?_eq_none (by rw [hlen]; omega)])
  clear h hlt hg hcs ht hrow
  go_enter Tryz.func94,Tryz.ntmps94
  go_wp2_with fail
  refine hc.out.mono ?_;rintro e w1 ⟨rfl,d',hr,hp,hs,hk⟩;have hsz : d'.size = ps.length := hp.1.trans (by simp)
  have hperm : d'.toList.Perm ps := by
   have e : d'.toList.take ps.length = d'.toList := List.take_of_length_le (by rw [Array.length_toList,hsz]; exact Nat.le_refl _);have p4 := hp.2.2;simp at p4;rw [<- e];simpa using p4
  have hsrt : d'.toList.Pairwise (fun x y => x.id <= y.id) := by
   rw [List.pairwise_iff_getElem];intro i j hi hj hij;have hi' : i < d'.size := (by simpa using hi);have hj' : j < d'.size := (by simpa using hj);have h2 := hs i j (Nat.zero_le _) hij (by rw [hsz] at hj'; exact hj');rw [getElem!_pos _ i hi',getElem!_pos _ j hj',ltE,ltOf_cfE] at h2;simpa using h2
  have HZ := hide (show ∃ s : List EndD,s.Perm ps /\ s.Pairwise (fun x y => x.id <= y.id) /\ w1.ownsRow base 53 3 (.slice (some ⟨g,0,none⟩) ps.length cap) ps.length (s.flatMap encE) /\ RowKit.Below base w w1 from ⟨d'.toList,hperm,hsrt,HO.out w1 d' hr hsz,HB.out w1 hk⟩);clear hr hp hs hk hperm hsrt hsz;go_wp2;go_end0;exact ⟨rfl,HZ.out⟩
end Go.Proofs.YtoaiakhnnfbkdaaGreatDoor
