import Derived.Test.YtoaiakhnnfbkdaaGreatDoorZr
import Derived.Test.YtoaiakhnnfbkdaaGreatDoorIns
set_option maxRecDepth 100000
set_option maxHeartbeats 32000000
namespace Go.Proofs.YtoaiakhnnfbkdaaGreatDoor
open Go.ChangeShapes Go.WideShapes Go.ChangeAt Go.RowKit Go.Lib Go.Shelf
def keyR (r : RuleD) : Key := rk3 r.path r.ex r.H.length
theorem phC0 {W w' : World} {z : Int} {vs : List Value} (hn : vs.length <= 0) (h : PhC W z vs w') : Ext W w' := by
 rcases vs with _ | ⟨u,vs⟩
 ·exact h
 ·simp at hn
theorem frame23 (x : Nat -> Value) : frameOf 23 x = #[x 0,x 1,x 2,x 3,x 4,x 5,x 6,x 7,x 8,x 9,x 10,x 11,x 12,x 13,x 14,x 15,x 16,x 17,x 18,x 19,x 20,x 21,x 22] := rfl
theorem rowcmp_any (W : World) (b0 b6 gr capr n : Nat) (Rs : List RuleD) (hn : Rs.length = n) (_hn20 : n <= 1000) (h6 : W.cell? ⟨b6,0,none⟩ = some (.pointer (some ⟨b0,0,none⟩))) (h0 : W.cell? ⟨b0,0,none⟩ = some (.slice (some ⟨gr,0,none⟩) n capr))
  (hr : ∀ k (hk : k < Rs.length) j u,(encR Rs[k])[j]? = some u -> W.cell? ⟨gr,k * 19 + j,none⟩ = some u) (hsh : ∀ r ∈ Rs,∃ x y,r.hv = .slice x r.H.length y) (ka kb : Nat) (hka : ka < n) (hkb : kb < n) :
  Calls Tryz.prog 45 #[.int .i64 ka,.int .i64 kb,.pointer (some ⟨b6,0,none⟩)] W fun e w' => e = .returned (.int .i64 (cfK (Rs.map keyR) ka kb)) /\ Ext W w' := by
 have hb6 := World.block_lt_of_cell? W _ h6;have hb0 := World.block_lt_of_cell? W _ h0;have hgr := World.block_lt_of_cell? W _ (hr ka (by omega) 0 _ rfl);have hk1 : Rs[ka]'(by omega) ∈ Rs := List.getElem_mem _;have hk2 : Rs[kb]'(by omega) ∈ Rs := List.getElem_mem _;obtain ⟨a1,c1,hv1⟩ := hsh _ hk1;obtain ⟨a2,c2,hv2⟩ := hsh _ hk2;have hA := fun j u => hr ka (by omega) j u;have hB := fun j u => hr kb (by omega) j u
 have hz : cmp3 (keyR (Rs[ka]'(by omega))) (keyR (Rs[kb]'(by omega))) = cfK (Rs.map keyR) ka kb := by
  unfold cfK;simp [List.getD_eq_getElem?_getD,List.getElem?_eq_getElem (show ka < Rs.length by omega),List.getElem?_eq_getElem (show kb < Rs.length by omega)]
 obtain ⟨r1,hr1⟩ : ∃ r,Rs[ka]'(by omega) = r := ⟨_,rfl⟩;obtain ⟨r2,hr2⟩ : ∃ r,Rs[kb]'(by omega) = r := ⟨_,rfl⟩;rw [hr1] at hv1 hA hz;rw [hr2] at hv2 hB hz;obtain ⟨z,hzz⟩ : ∃ z,cfK (Rs.map keyR) ka kb = z := ⟨_,rfl⟩;rw [hzz] at hz ⊢
 have hm : ∀ w',Ext W w' -> Calls Tryz.prog 46 #[.agg #[.string r1.path,.bool r1.ex,.slice a1 r1.H.length c1],.agg #[.string r2.path,.bool r2.ex,.slice a2 r2.H.length c2]] w' fun e w'' => e = .returned (.int .i64 z) /\ Ext w' w'' := fun w' _ => by
  rw [<- hz];exact cmp_any r1.path r2.path r1.ex r2.ex a1 a2 r1.H.length c1 r2.H.length c2 w'
 have hA3 : ∀ w',Ext W w' -> w'.cell? ⟨gr,ka * 19,none⟩ = some (.string r1.path) /\ w'.cell? ⟨gr,ka * 19 + 1,none⟩ = some (.bool r1.ex) /\ w'.cell? ⟨gr,ka * 19 + 2,none⟩ = some (.slice a1 r1.H.length c1) := fun w' h => by
  rw [<- hv1];exact ⟨(h.cell (p := ⟨gr,ka * 19,none⟩) hgr).trans (hA 0 _ rfl),(h.cell (p := ⟨gr,ka * 19 + 1,none⟩) hgr).trans (hA 1 _ rfl),(h.cell (p := ⟨gr,ka * 19 + 2,none⟩) hgr).trans (hA 2 _ rfl)⟩
 have hB3 : ∀ w',Ext W w' -> w'.cell? ⟨gr,kb * 19,none⟩ = some (.string r2.path) /\ w'.cell? ⟨gr,kb * 19 + 1,none⟩ = some (.bool r2.ex) /\ w'.cell? ⟨gr,kb * 19 + 2,none⟩ = some (.slice a2 r2.H.length c2) := fun w' h => by
  rw [<- hv2];exact ⟨(h.cell (p := ⟨gr,kb * 19,none⟩) hgr).trans (hB 0 _ rfl),(h.cell (p := ⟨gr,kb * 19 + 1,none⟩) hgr).trans (hB 1 _ rfl),(h.cell (p := ⟨gr,kb * 19 + 2,none⟩) hgr).trans (hB 2 _ rfl)⟩
 have H6 := hide (fun w' (h : Ext W w') => (h.cell (p := ⟨b6,0,none⟩) hb6).trans h6);have H0 := hide (fun w' (h : Ext W w') => (h.cell (p := ⟨b0,0,none⟩) hb0).trans h0);have HM := hide hm;have HA := hide hA3;have HB := hide hB3;clear hm hA3 hB3 h6 h0 hb6 hb0 hgr hk1 hk2 hA hB hz hzz hv1 hv2 hr1 hr2 hr hsh hn;generalize r1.path = p1 at *;generalize r1.ex = x1 at *;generalize r1.H.length = n1 at *;generalize r2.path = p2 at *;generalize r2.ex = x2 at *;generalize r2.H.length = n2 at *;have hkaz : (ka : Int) < n := by omega
 have hkbz : (kb : Int) < n := by omega
 go_enter Tryz.func45,Tryz.ntmps45
 go_upto_region 1 with (fail)
 refine wp_region_ph 23 [16] (PhC W z) (fun t v => match t with | 0 => v = .int .i64 ka | 1 => v = .int .i64 kb | 2 => v = .pointer (some ⟨b6,0,none⟩) | 5 => v = .int .i64 z | 6 => v = .pointer (some ⟨b0,0,none⟩) | 7 => v = .pointer (some ⟨b0,0,none⟩) | 8 => v = .pointer (some ⟨b0,0,none⟩) | 9 => v = .slice (some ⟨gr,0,none⟩) n capr | 10 => v = .int .i64 ka | 11 => v = .pointer (some ⟨gr,ka * 19,none⟩) | 12 => v = .pointer (some ⟨gr,ka * 19,none⟩) | 13 => v = .agg #[.string p1,.bool x1,.slice a1 n1 c1] | 14 => v = .pointer (some ⟨b0,0,none⟩) | 15 => v = .pointer (some ⟨b0,0,none⟩) | 16 => v = .pointer (some ⟨b0,0,none⟩) | 17 => v = .slice (some ⟨gr,0,none⟩) n capr | 18 => v = .int .i64 kb | 19 => v = .pointer (some ⟨gr,kb * 19,none⟩) | 20 => v = .pointer (some ⟨gr,kb * 19,none⟩) | 21 => v = .agg #[.string p2,.bool x2,.slice a2 n2 c2] | _ => True) (by kernel_rfl) rfl (by kernel_rfl) (by kernel_rfl) (by kernel_rfl) ?_ ?_ ?_ ?_ ?_
 ·exact zb.drew
 ·intro t ht hno;split <;> first | exact True.intro | exact rfl | exact zn hno
 ·intro i o ho hmi vs X w' hpk hph hX hI K hK;have hin : i < 18 := (zg ho);rcases zo hin with rfl | rfl | rfl | rfl | rfl | rfl | rfl | rfl | rfl | rfl | rfl | rfl | rfl | rfl | rfl | rfl | rfl | rfl
  all_goals first | (exact absurd hmi (by decide)) | (obtain rfl := Option.some.inj ho; unfold wpOp; simp only [ho]; rw [if_pos (by rfl)]; left; rw [frame23])
  ·have e2 : X 2 = _ := zk1 (hI 2);have c0 := H6.out w' (phC0 ((hpk 0 (by decide)).2 (by kernel_rfl)) hph);go_simp;refine zm0 hK (.pointer (some ⟨b0,0,none⟩)) ?_;simp [frame23,Act.put, *]
  ·have e6 : X 6 = _ := zk1 (hI 6);go_simp;refine zm0 hK (.pointer (some ⟨b0,0,none⟩)) ?_;simp [frame23,Act.put, *]
  ·have e7 : X 7 = _ := zk1 (hI 7);go_simp;refine zm0 hK (.pointer (some ⟨b0,0,none⟩)) ?_;simp [frame23,Act.put, *]
  ·have e8 : X 8 = _ := zk1 (hI 8);have c0 := H0.out w' (phC0 ((hpk 0 (by decide)).2 (by kernel_rfl)) hph);go_simp;refine zm0 hK (.slice (some ⟨gr,0,none⟩) n capr) ?_;simp [frame23,Act.put, *]
  ·have e0 : X 0 = _ := zk1 (hI 0);go_simp;refine zm0 hK (.int .i64 ka) ?_;simp [frame23,Act.put, *]
  ·have e9 : X 9 = _ := zk1 (hI 9);have e10 : X 10 = _ := zk1 (hI 10);go_simp;refine zm0 hK (.pointer (some ⟨gr,ka * 19,none⟩)) ?_;simp [frame23,Act.put, *]
  ·have e11 : X 11 = _ := zk1 (hI 11);go_simp;refine zm0 hK (.pointer (some ⟨gr,ka * 19,none⟩)) ?_;simp [frame23,Act.put, *]
  ·have e12 : X 12 = _ := zk1 (hI 12);obtain ⟨d0,d1,d2⟩ := HA.out w' (phC0 ((hpk 0 (by decide)).2 (by kernel_rfl)) hph);go_simp;refine zm0 hK (.agg #[.string p1,.bool x1,.slice a1 n1 c1]) ?_;simp [frame23,Act.put, *]
  ·have e2 : X 2 = _ := zk1 (hI 2);have c0 := H6.out w' (phC0 ((hpk 0 (by decide)).2 (by kernel_rfl)) hph);go_simp;refine zm0 hK (.pointer (some ⟨b0,0,none⟩)) ?_;simp [frame23,Act.put, *]
  ·have e14 : X 14 = _ := zk1 (hI 14);go_simp;refine zm0 hK (.pointer (some ⟨b0,0,none⟩)) ?_;simp [frame23,Act.put, *]
  ·have e15 : X 15 = _ := zk1 (hI 15);go_simp;refine zm0 hK (.pointer (some ⟨b0,0,none⟩)) ?_;simp [frame23,Act.put, *]
  ·have e16 : X 16 = _ := zk1 (hI 16);have c0 := H0.out w' (phC0 ((hpk 0 (by decide)).2 (by kernel_rfl)) hph);go_simp;refine zm0 hK (.slice (some ⟨gr,0,none⟩) n capr) ?_;simp [frame23,Act.put, *]
  ·have e1 : X 1 = _ := zk1 (hI 1);go_simp;refine zm0 hK (.int .i64 kb) ?_;simp [frame23,Act.put, *]
  ·have e17 : X 17 = _ := zk1 (hI 17);have e18 : X 18 = _ := zk1 (hI 18);go_simp;refine zm0 hK (.pointer (some ⟨gr,kb * 19,none⟩)) ?_;simp [frame23,Act.put, *]
  ·have e19 : X 19 = _ := zk1 (hI 19);go_simp;refine zm0 hK (.pointer (some ⟨gr,kb * 19,none⟩)) ?_;simp [frame23,Act.put, *]
  ·have e20 : X 20 = _ := zk1 (hI 20);obtain ⟨d0,d1,d2⟩ := HB.out w' (phC0 ((hpk 0 (by decide)).2 (by kernel_rfl)) hph);go_simp;refine zm0 hK (.agg #[.string p2,.bool x2,.slice a2 n2 c2]) ?_;simp [frame23,Act.put, *]
  ·have hl := (hpk 0 (by decide)).1 (by kernel_rfl);rcases vs with _ | ⟨v,_ | ⟨v2,vs⟩⟩
   ·simp at hl
   ·obtain ⟨hE1,rfl⟩ := hph;have e22 : X 22 = .int .i64 z := hX 0 22 (by simp) (by kernel_rfl);go_simp;refine zm0 hK (.int .i64 z) ?_;simp [frame23,Act.put, *]
   ·exact hph.elim
 ·intro i o ho hmi vs X w' hqi hql hph hX hI K hK;rcases vs with _ | ⟨v0,_⟩
  ·obtain rfl : 16 = i := hqi;obtain rfl := Option.some.inj ho;have e13 : X 13 = _ := zk1 (hI 13);have e21 : X 21 = _ := zk1 (hI 21);unfold wpOp;simp only [ho];rw [if_pos (by rfl)];left;rw [frame23];go_simp;refine (HM.out w' hph).mono ?_;rintro e w9 ⟨rfl,E9⟩;refine metK (hK.out (.int .i64 z) w9 ⟨hph.trans E9,rfl⟩) ?_;simp [frame23,Act.put, *]
  ·simp at hql <;> omega
 ·intro vs X w' hlen hph hX hI;have e0 : X 0 = _ := zk3 (hI 0);have e1 : X 1 = _ := zk3 (hI 1);have e2 : X 2 = _ := zk3 (hI 2);have e5 : X 5 = _ := zk3 (hI 5);have e6 : X 6 = _ := zk3 (hI 6);have e7 : X 7 = _ := zk3 (hI 7);have e8 : X 8 = _ := zk3 (hI 8);have e9 : X 9 = _ := zk3 (hI 9);have e10 : X 10 = _ := zk3 (hI 10);have e11 : X 11 = _ := zk3 (hI 11);have e12 : X 12 = _ := zk3 (hI 12);have e13 : X 13 = _ := zk3 (hI 13);have e14 : X 14 = _ := zk3 (hI 14);have e15 : X 15 = _ := zk3 (hI 15);have e16 : X 16 = _ := zk3 (hI 16);have e17 : X 17 = _ := zk3 (hI 17);have e18 : X 18 = _ := zk3 (hI 18);have e19 : X 19 = _ := zk3 (hI 19);have e20 : X 20 = _ := zk3 (hI 20);have e21 : X 21 = _ := zk3 (hI 21);rcases vs with _ | ⟨v0,_ | ⟨vz,vs⟩⟩
  ·simp at hlen
  rotate_left
  ·simp at hlen
  have e22 : X 22 = v0 := hX 0 22 (by simp) (by kernel_rfl);clear hX hI hlen;rw [frame23];simp only [e0,e1,e2,e5,e6,e7,e8,e9,e10,e11,e12,e13,e14,e15,e16,e17,e18,e19,e20,e21,e22];obtain ⟨hE1,-⟩ := hph;go_wp2;go_ret;exact ⟨rfl,hE1⟩

theorem insOuter_inR (lt : Int -> Int -> Bool) (N a b : Nat) : ∀ (n i : Nat) (d : Array Int),b - i = n -> b <= d.size -> InR N d -> (Go.Sort.insOuter lt a b i d).size = d.size /\ InR N (Go.Sort.insOuter lt a b i d) := by
 intro n
 induction n with
 | zero =>
  intro i d hn _ h;rw [Go.Sort.insOuter,if_neg (by omega)]
  exact ⟨rfl,h⟩
 | succ n ih =>
  intro i d hn hb h;have hib : i < b := by omega
  rw [Go.Sort.insOuter,if_pos hib];obtain ⟨k1,k2,k3⟩ := insInner_keep lt a i d (by omega)
  have := ih (i + 1) (Go.Sort.insInner lt a i d) (by omega) (by omega) (fun p hp => by
   by_cases hpi : p <= i
   ·obtain ⟨r,hr,e⟩ := k3 p hpi;rw [e];exact h r (by omega)
   ·rw [k2 p (by omega)]
    exact h p (by omega))
  exact ⟨by rw [this.1,k1],this.2⟩
theorem isort_inR (lt : Int -> Int -> Bool) (N : Nat) (d : Array Int) (h : InR N d) : (Go.Sort.insertionSort lt d 0 d.size).size = d.size /\ InR N (Go.Sort.insertionSort lt d 0 d.size) := insOuter_inR lt N 0 d.size _ 1 d rfl (Nat.le_refl _) h
theorem stable_any (N blk cap n : Nat) (d : Array Int) (fv : Value) (cf : Int -> Int -> Int) (w : World) (hN : InR N d) (hC : CmpOk w blk N fv cf) (hR : RowI w blk cap d) (hdn : d.size = n) (hsz : n <= 20) :
  Calls Tryz.prog 86 #[.slice (some ⟨blk,0,none⟩) n cap,.int .i64 n,fv] w fun e w' => e = .returned (.tuple #[]) /\ RowI w' blk cap (Go.Sort.insertionSort (ltOf cf) d 0 d.size) /\ Keeps (fun b => b = blk) w w' := by
 have hcall : ∀ (a b : Nat) (dk : Array Int) (X : World),InR N dk -> RowI X blk cap dk -> Keeps (fun b => b = blk) w X -> a <= b -> b <= n -> dk.size = n ->
   Calls Tryz.prog 112 #[.slice (some ⟨blk,0,none⟩) n cap,.int .i64 a,.int .i64 b,fv] X fun e w' => e = .returned (.tuple #[]) /\ RowI w' blk cap (Go.Sort.insertionSort (ltOf cf) dk a b) /\ Keeps (fun b => b = blk) X w' := fun a b dk X h1 h2 h3 h4 h5 h6 => by
  have := isort_any a b N blk cap dk fv cf w X h1 hC h2 h3 h4 (by omega) (by omega);rw [h6] at this;exact this
 have hsh : ∃ g cb,fv = .func (.func g) #[] cb := by
  obtain ⟨g,cb,h,_⟩ := hC;exact ⟨g,cb,h⟩
 obtain ⟨g,cb,rfl⟩ := hsh;have HCALL := hide hcall;have HN := hide hN;have HR := hide hR;have HDN := hide hdn;clear hcall hC hN hR hdn;have hz1 : (n : Int) <= 20 := by omega
 have hz2 : ¬ (20 : Int) < n := by omega
 go_enter Tryz.func86,Tryz.ntmps86
 go_wp2_with fail
 go_loopw [7,8] (fun va vb wr => ∃ (dk : Array Int),dk.size = n /\ InR N dk /\ RowI wr blk cap dk /\ Keeps (fun b => b = blk) w wr /\ ((va = .int .i64 0 /\ vb = .int .i64 20 /\ Hid (dk = d)) \/ (va = .int .i64 20 /\ vb = .int .i64 40 /\ n = 20 /\ Hid (dk = Go.Sort.insertionSort (ltOf cf) d 0 d.size)))) (fun _ b _ => 60 - (intOf b).toNat)
 case atStart => exact ⟨d,HDN.out,HN.out,HR.out,Keeps.refl _ _,.inl ⟨rfl,rfl,rfl⟩⟩
 case round =>
  obtain ⟨dk,hsk,hir,hri,hki,hcase⟩ := hrel;have HIR := hide hir;have HRI := hide hri;have HKI := hide hki;clear hir hri hki;rcases hcase with ⟨rfl,rfl,HD⟩ | ⟨rfl,rfl,h20,HD⟩
  ·by_cases h20 : n = 20
   ·have h20z : (20 : Int) <= n := (by omega);have hle : 20 <= n := (by omega);have H20 := hide h20;have HSK := hide hsk;clear h20 hsk
    go_wp2_with fail
    refine (HCALL.out 0 20 dk wr HIR.out HRI.out HKI.out (by omega) hle HSK.out).mono ?_;rintro e w1 ⟨rfl,h1,h2⟩;have hin := isort_inR (ltOf cf) N dk HIR.out;rw [HSK.out,H20.out] at hin;have H1 := hide h1;have H2 := hide (HKI.out.trans h2);have H3 := hide hin;clear h1 h2 hin;go_wp2
    go_roundw
    case rel => exact ⟨_,H3.out.1.trans H20.out.symm,H3.out.2,H1.out,H2.out,.inr ⟨rfl,rfl,H20.out,by rw [HD.out,HDN.out,H20.out]; rfl⟩⟩
    case measure => simp [intOf] <;> omega
   ·have h19 : ¬ (20 : Int) <= n := by omega
    go_wp2_with fail
    refine (HCALL.out 0 n dk wr HIR.out HRI.out HKI.out (by omega) (by omega) hsk).mono ?_;rintro e w1 ⟨rfl,h1,h2⟩;have H1 := hide h1;have H2 := hide (HKI.out.trans h2);clear h1 h2
    go_wp2_with fail
    go_loopw [6] (fun v6 wr => v6 = .int .i64 20 /\ wr = w1) (fun _ _ => 0)
    case atStart => exact ⟨rfl,rfl⟩
    case round =>
     obtain ⟨rfl,rfl⟩ := hrel;go_wp2;go_end0;exact ⟨rfl,by rw [HDN.out,<- HD.out]; exact H1.out,H2.out⟩
  ·have h40 : ¬ (40 : Int) <= n := (by omega);have hle : 20 <= n := (by omega);have H20 := hide h20;have HSK := hide hsk;clear h20 hsk
   go_wp2_with fail
   refine (HCALL.out 20 n dk wr HIR.out HRI.out HKI.out hle (Nat.le_refl _) HSK.out).mono ?_;rintro e w1 ⟨rfl,h1,h2⟩
   have hst : Go.Sort.insertionSort (ltOf cf) dk 20 n = dk := by
    unfold Go.Sort.insertionSort;rw [Go.Sort.insOuter,if_neg (by omega)]
   rw [hst] at h1;have H1 := hide h1;have H2 := hide (HKI.out.trans h2);clear h1 h2 hst
   go_wp2_with fail
   go_loopw [6] (fun v6 wr => v6 = .int .i64 20 /\ wr = w1) (fun _ _ => 0)
   case atStart => exact ⟨rfl,rfl⟩
   case round =>
    obtain ⟨rfl,rfl⟩ := hrel;go_wp2;go_end0;exact ⟨rfl,by rw [<- HD.out]; exact H1.out,H2.out⟩
theorem ssort_any (N blk cap n : Nat) (d : Array Int) (fv : Value) (cf : Int -> Int -> Int) (w : World) (hN : InR N d) (hC : CmpOk w blk N fv cf) (hR : RowI w blk cap d) (hdn : d.size = n) (hsz : n <= 20) :
  Calls Tryz.prog 44 #[.slice (some ⟨blk,0,none⟩) n cap,fv] w fun e w' => e = .returned (.tuple #[]) /\ RowI w' blk cap (Go.Sort.insertionSort (ltOf cf) d 0 d.size) /\ Keeps (fun b => b = blk) w w' := by
 have hc := hide (stable_any N blk cap n d fv cf w hN hC hR hdn hsz);obtain ⟨g,cb,rfl,_⟩ := hC;clear hN hR
 go_enter Tryz.func44,Tryz.ntmps44
 go_wp2_with fail
 refine hc.out.mono ?_;rintro e w1 ⟨rfl,h1,h2⟩;have H1 := hide h1;have H2 := hide h2;clear h1 h2;go_wp2;go_end0;exact ⟨rfl,H1.out,H2.out⟩
theorem ssort0_any (a : Option Addr) (cap : Nat) (g : Nat) (cb : Array Value) (w : World) :
  Calls Tryz.prog 44 #[.slice a 0 cap,.func (.func g) #[] cb] w fun e w' => e = .returned (.tuple #[]) /\ w = w' := by
 have h1 : Calls Tryz.prog 112 #[.slice a 0 cap,.int .i64 0,.int .i64 0,.func (.func g) #[] cb] w fun e w' => e = .returned (.tuple #[]) /\ w = w' := by
  go_enter Tryz.func112,Tryz.ntmps112
  go_wp2_with fail
  go_loopw [8] (fun v wr => v = .int .i64 1 /\ w = wr) (fun _ _ => 0)
  case atStart => exact ⟨rfl,rfl⟩
  case round =>
   obtain ⟨rfl,rfl⟩ := hrel;go_wp2;go_end0;exact ⟨rfl,rfl⟩
 have H1 := hide h1;clear h1
 have h2 : Calls Tryz.prog 86 #[.slice a 0 cap,.int .i64 0,.func (.func g) #[] cb] w fun e w' => e = .returned (.tuple #[]) /\ w = w' := by
  go_enter Tryz.func86,Tryz.ntmps86
  go_wp2_with fail
  go_loopw [7,8] (fun va vb wr => va = .int .i64 0 /\ vb = .int .i64 20 /\ w = wr) (fun _ _ _ => 0)
  case atStart => exact ⟨rfl,rfl,rfl⟩
  case round =>
   obtain ⟨rfl,rfl,rfl⟩ := hrel
   go_wp2_with fail
   refine H1.out.mono ?_;rintro e w1 ⟨rfl,rfl⟩
   go_wp2_with fail
   go_loopw [6] (fun v6 wr => v6 = .int .i64 20 /\ w = wr) (fun _ _ => 0)
   case atStart => exact ⟨rfl,rfl⟩
   case round =>
    obtain ⟨rfl,rfl⟩ := hrel;go_wp2;go_end0;exact ⟨rfl,rfl⟩
 have H2 := hide h2;clear h2
 go_enter Tryz.func44,Tryz.ntmps44
 go_wp2_with fail
 refine H2.out.mono ?_;rintro e w1 ⟨rfl,rfl⟩;go_wp2;go_end0;exact ⟨rfl,rfl⟩
theorem flat_get (l : List Int) (i : Nat) : (l.flatMap encI)[i]? = (l[i]?).map (Value.int .i64) := by
 have : l.flatMap encI = l.map (Value.int .i64) := by
  induction l with
  | nil => rfl
  | cons x l ih => simp [encI] at ih ⊢; exact ih
 rw [this,List.getElem?_map]
theorem RowI.of_own {w : World} {B g n cap : Nat} {I : List Int} (h : w.ownsRow B 3 1 (.slice (some ⟨g,0,none⟩) n cap) I.length (I.flatMap encI)) (hn : n = I.length) : RowI w g cap I.toArray := by
 subst hn;rcases h.2 with ⟨h1,_⟩ | ⟨g',cap',cur,hv,hg,hb,h1,h2,h3,h4⟩
 ·cases h1
 ·cases hv
  refine ⟨cur,hb,by omega,by simpa using h1, ?_⟩;intro i hi;have hi' : i < I.length := by simpa using hi
  have e : (cur.toList.take (I.length * 1))[i]? = (I.flatMap encI)[i]? := by rw [h4]
  rw [flat_get,List.getElem?_take_of_lt (by omega),List.getElem?_eq_getElem hi'] at e;rw [getElem!_pos I.toArray i hi];simpa using e
theorem RowI.owns {w : World} {B g cap : Nat} {d : Array Int} (h : RowI w g cap d) (hB : B <= g) (hm : cap <= maxLen) : w.ownsRow B 3 1 (.slice (some ⟨g,0,none⟩) d.size cap) d.toList.length (d.toList.flatMap encI) := by
 obtain ⟨cs,h1,h2,h3,h4⟩ := h;refine ⟨by simp [length_flatMap_enc (enc := encI) (size := 1) (fun _ => rfl)],.inr ⟨g,cap,cs,by simp,hB,h1,by simpa using h3,hm,by omega, ?_⟩⟩;apply List.ext_getElem?;intro i;rw [flat_get];by_cases hi : i < d.size
 ·rw [List.getElem?_take_of_lt (by simp; omega),List.getElem?_eq_getElem (l := d.toList) (by simpa using hi)];have := h4 i hi;rw [getElem!_pos d i hi] at this;simpa using this
 ·rw [List.getElem?_eq_none (by simp; omega),List.getElem?_eq_none (by simp; omega)];rfl
def rowR (R : List RuleD) : List Int := rowL (ltOf (cfK (R.map keyR))) R.length
theorem keyR_map {R R' : List RuleD} (h : R.map RuleD.core = R'.map RuleD.core) : R.map keyR = R'.map keyR := by
 have e : ∀ L : List RuleD,L.map keyR = (L.map RuleD.core).map keyR := fun L => by rw [List.map_map]; rfl
 rw [e R,e R',h]
end Go.Proofs.YtoaiakhnnfbkdaaGreatDoor
