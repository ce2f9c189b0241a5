import Derived.Test.YtoaiakhnnfbkdaaGreatDoorHdA
import Derived.Deep.RegionHeld3

/- heads: place,Get,Check; the reference's Get and Check. -/
set_option maxRecDepth 100000
set_option maxHeartbeats 32000000
namespace Go.Proofs.YtoaiakhnnfbkdaaGreatDoor
open Go.ChangeShapes Go.WideShapes Go.ChangeAt Go.RowKit Go.Lib Go.Shelf
theorem Sl.capb {α : Type} {enc : α -> List Value} {size : Nat} {w : World} {a : Option Addr} {n cap : Nat} {xs : List α} (h : Sl enc size w (.slice a n cap) xs) : (n : Int) <= cap /\ (cap : Int) <= 9223372036854775807 := by
 obtain ⟨h1,a',c',e,hc,_⟩ := h;cases e;omega
def isN (nm : List UInt8) (h : HeadD) : Bool := bl h.1 == nm
def getH (L : List HeadD) (nm : List UInt8) : Option ByteArray := (L.find? (isN nm)).map (·.2)
def placeI (L : List HeadD) (nm : List UInt8) : Int := match L.findIdx? (isN nm) with
 | some i => (i : Int)
 | none => -1
theorem placeI_hit (L : List HeadD) (nm : List UInt8) (k : Nat) (hk : k < L.length) (h : isN nm L[k] = true) (hn : ∀ j (hj : j < k),isN nm (L[j]'(by omega)) = false) : placeI L nm = k /\ getH L nm = some L[k].2 := by
 have h1 : L.findIdx? (isN nm) = some k := List.findIdx?_eq_some_iff_getElem.2 ⟨hk,h,fun j hj => by simp [hn j hj]⟩;have h2 : L.find? (isN nm) = some L[k] := List.find?_eq_some_iff_getElem.2 ⟨h,k,hk,rfl,fun j hj => by simp [hn j hj]⟩;unfold placeI getH;rw [h1,h2];exact ⟨rfl,rfl⟩
theorem placeI_miss (L : List HeadD) (nm : List UInt8) (hn : ∀ j (hj : j < L.length),isN nm L[j] = false) : placeI L nm = -1 /\ getH L nm = none := by
 have hall : ∀ x ∈ L,isN nm x = false := fun x hx => by
  obtain ⟨j,hj,rfl⟩ := List.getElem_of_mem hx;exact hn j hj
 have h1 : L.findIdx? (isN nm) = none := List.findIdx?_eq_none_iff.2 hall;have h2 : L.find? (isN nm) = none := List.find?_eq_none.2 (fun x hx => by simp [hall x hx]);unfold placeI getH;rw [h1,h2];exact ⟨rfl,rfl⟩
theorem placeI_cases (L : List HeadD) (nm : List UInt8) : (∃ k : Nat,∃ hk : k < L.length,placeI L nm = k /\ getH L nm = some L[k].2) \/ (placeI L nm = -1 /\ getH L nm = none) := by
 cases h : L.findIdx? (isN nm) with
 | some k =>
  obtain ⟨hk,h1,h2⟩ := List.findIdx?_eq_some_iff_getElem.1 h
  exact .inl ⟨k,hk,placeI_hit L nm k hk h1 (fun j hj => by simpa using h2 j hj)⟩
 | none =>
  refine .inr (placeI_miss L nm (fun j hj => ?_));exact List.findIdx?_eq_none_iff.1 h _ (List.getElem_mem hj)
theorem place1_any (n v nm : ByteArray) (b8 : Nat) (w : World) (hb : w.cell? ⟨b8,0,none⟩ = some (.string nm)) (hl : b8 < w.heap.size) :
  Calls Tryz.prog 162 #[.agg #[.string n,.string v],.pointer (some ⟨b8,0,none⟩)] w fun e w' => e = .returned (.bool (isN (bl nm) (n,v))) /\ Ext w w' := by
 have hn : isN (bl nm) (n,v) = (n.toList == nm.toList) := by unfold isN bl; rw [toL,toL]
 have HN := hide hn;clear hn
 go_enter Tryz.func162,Tryz.ntmps162
 go_wp2;go_ret;exact ⟨ret_bool HN.out.symm,za⟩
theorem hidx_any (L : List HeadD) (nm : ByteArray) (v : Value) (b8 : Nat) (w : World) (hs : Heads w v L) (hb : w.cell? ⟨b8,0,none⟩ = some (.string nm)) :
  Calls Tryz.prog 161 #[v,.func (.func 162) #[] #[.pointer (some ⟨b8,0,none⟩)]] w fun e w' => e = .returned (.int .i64 (placeI L (bl nm))) /\ Ext w w' := by
 obtain ⟨_,a,cap,rfl⟩ := hs.shape;have HS := hide hs;have hlz := hs.shape.1;have hb8 : b8 < w.heap.size := World.block_lt_of_cell? w _ hb;have hcl : ∀ (X : World) (h : HeadD),Ext w X -> Calls Tryz.prog 162 #[.agg #[.string h.1,.string h.2],.pointer (some ⟨b8,0,none⟩)] X fun e w' => e = .returned (.bool (isN (bl nm) h)) /\ Ext X w' := fun X h hX => place1_any h.1 h.2 nm b8 X ((hX.cell (p := ⟨b8,0,none⟩) hb8).trans hb) (Nat.lt_of_lt_of_le hb8 hX.size);have HCL := hide hcl;have eg : ∀ args w,(callFunc 162 args).run Tryz.prog w = .ok (.enter 162 args) w := enters_of Tryz.func162 (by kernel_rfl) rfl;clear hs hcl hb hb8
 go_enter Tryz.func161,Tryz.ntmps161
 go_wp2_with fail
 go_loopw [8] (fun i wr => ∃ k : Nat,∃ hk : k <= L.length,i = .int .i64 k /\ (∀ j (hj : j < k),isN (bl nm) (L[j]'(by omega)) = false) /\ Ext w wr) (fun i _ => L.length - (intOf i).toNat)
 case atStart => exact ⟨0,by omega,rfl,fun j hj => by omega,zb⟩
 case round =>
  obtain ⟨k,hk,rfl,hno,hext⟩ := hrel;by_cases hlt : k < L.length
  ·obtain ⟨b,off,rfl,hbb,hc1,hc2⟩ := heads_at (HS.out.ext hext) k hlt;have hhit := placeI_hit L (bl nm) k hlt;have hcl := HCL.out wr L[k] hext
   have hnx : isN (bl nm) L[k] = false -> ∀ j (hj : j < k + 1),isN (bl nm) (L[j]'(by omega)) = false := fun h j hj => by
    by_cases e : j = k
    ·subst e; exact h
    ·exact hno j (by omega)
   obtain ⟨⟨x1,x2⟩,hx⟩ : ∃ x,L[k] = x := ⟨_,rfl⟩;simp only [hx] at hc1 hc2 hhit hcl hnx;obtain ⟨t,ht⟩ : ∃ t,isN (bl nm) (x1,x2) = t := ⟨_,rfl⟩;simp only [ht] at hhit hcl hnx;have HHIT := hide hhit;have HNX := hide hnx;have HC := hide hcl;have HNO := hide hno;clear hhit hnx hcl hx ht hno
   go_wp2_with fail
   refine HC.out.mono ?_;rintro e w7 ⟨rfl,E7⟩
   cases t with
   | true =>
    have h1 := (HHIT.out rfl HNO.out).1;have H1 := hide h1;clear h1;go_wp2;go_ret
    exact ⟨ret_int H1.out.symm,hext.trans E7⟩
   | false =>
    go_wp2
    go_roundw
    case rel => exact ⟨k + 1,hlt,by go_num,HNX.out (by first | rfl | trivial),hext.trans E7⟩
    case measure => simp [intOf]; omega
  ·obtain rfl : k = L.length := (by omega);have h1 := (placeI_miss L (bl nm) hno).1;have H1 := hide h1;clear h1 hno;go_wp2;go_ret;exact ⟨ret_int H1.out.symm,hext⟩
theorem place_any (L : List HeadD) (nm : ByteArray) (v : Value) (w : World) (hs : Heads w v L) :
  Calls Tryz.prog 144 #[v,.string nm] w fun e w' => e = .returned (.int .i64 (placeI L (bl nm))) /\ Ext w w' := by
 have e0 : Ext w (w.alloc (.cells #[.string nm] 9)) := za;have hi := hidx_any L nm v w.heap.size (w.alloc (.cells #[.string nm] 9)) (hs.ext e0) (by go_simp);obtain ⟨_,a,cap,rfl⟩ := hs.shape;have HI := hide hi;have HE := hide e0;clear hi hs e0
 go_enter Tryz.func144,Tryz.ntmps144
 go_wp2_with fail
 refine HI.out.mono ?_;rintro e w1 ⟨rfl,E1⟩;go_wp2;go_ret;exact ⟨rfl,HE.out.trans E1⟩
theorem rget_any (L : List HeadD) (nm : ByteArray) (v : Value) (w : World) (hs : Heads w v L) :
  Calls Tryz.prog 103 #[v,.string nm] w fun e w' => e = .returned (.tuple #[.string ((getH L (bl nm)).getD ⟨#[]⟩),.bool (getH L (bl nm)).isSome]) /\ w = w' := by
 obtain ⟨_,a,cap,rfl⟩ := hs.shape;have HS := hide hs;have hlz := hs.shape.1;clear hs
 go_enter Tryz.func103,Tryz.ntmps103
 go_wp2_with fail
 go_loop [6] (fun i => ∃ k : Nat,∃ hk : k <= L.length,i = .int .i64 k /\ (∀ j (hj : j < k),isN (bl nm) (L[j]'(by omega)) = false)) (fun i => L.length - (intOf i).toNat)
 case atStart => exact ⟨0,by omega,rfl,fun j hj => by omega⟩
 case round =>
  obtain ⟨k,hk,rfl,hno⟩ := hrel;by_cases hlt : k < L.length
  ·obtain ⟨b,off,rfl,hbb,hc1,hc2⟩ := heads_at HS.out k hlt;have hhit := placeI_hit L (bl nm) k hlt
   have hnx : isN (bl nm) L[k] = false -> ∀ j (hj : j < k + 1),isN (bl nm) (L[j]'(by omega)) = false := fun h j hj => by
    by_cases e : j = k
    ·subst e; exact h
    ·exact hno j (by omega)
   have hq : isN (bl nm) L[k] = (L[k].1.toList == nm.toList) := (by unfold isN bl; rw [toL,toL]);obtain ⟨⟨x1,x2⟩,hx⟩ : ∃ x,L[k] = x := ⟨_,rfl⟩;simp only [hx] at hc1 hc2 hhit hnx hq;rw [hq] at hhit hnx;obtain ⟨t,ht⟩ : ∃ t,(x1.toList == nm.toList) = t := ⟨_,rfl⟩;simp only [ht] at hhit hnx;have HHIT := hide hhit;have HNX := hide hnx;have HNO := hide hno;clear hhit hnx hx hno hq
   cases t with
   | true =>
    have h1 := (HHIT.out rfl HNO.out).2;have H1 := hide h1;clear h1;go_wp2;go_ret2
    exact ⟨by rw [H1.out]; rfl,rfl⟩
   | false =>
    go_wp2
    go_round
    case rel => exact ⟨k + 1,hlt,by go_num,HNX.out rfl⟩
    case measure => simp [intOf]; omega
  ·obtain rfl : k = L.length := (by omega);have h1 := (placeI_miss L (bl nm) hno).2;have H1 := hide h1;clear h1 hno;go_wp2;go_ret2;exact ⟨by rw [H1.out]; rfl,rfl⟩
def hchkL : List HeadD -> List HeadD -> Int
 | _,[] => 0
 | seen,h :: t => if mayB (bl h.1) (bl h.2) = true then (if (getH seen (bl h.1)).isSome = true then 5 else hchkL (seen ++ [h]) t) else 11
def hchk (L : List HeadD) : Int := if 8 < L.length then 2 else hchkL [] L
def hAt (L : List HeadD) (k : Nat) : Int := hchkL (L.take k) (L.drop k)
theorem hAt_zero (L : List HeadD) : hAt L 0 = hchkL [] L := by simp [hAt]
theorem hAt_end (L : List HeadD) : hAt L L.length = 0 := by simp [hAt,hchkL]
theorem hAt_step (L : List HeadD) (k : Nat) (hk : k < L.length) : hAt L k = if mayB (bl L[k].1) (bl L[k].2) = true then (if (getH (L.take k) (bl L[k].1)).isSome = true then 5 else hAt L (k + 1)) else 11 := by
 unfold hAt;rw [List.drop_eq_getElem_cons hk,take_snoc L k hk];rfl
def HSz (L : List HeadD) : Prop := ∀ h ∈ L,h.1.size <= 9223372036854775807 /\ h.2.size <= 9223372036854775807
theorem rhchk_any (L : List HeadD) (v : Value) (w : World) (hs : Heads w v L) (hz : HSz L) :
  Calls Tryz.prog 136 #[v] w fun e w' => e = .returned (.int .i64 (hchk L)) /\ Ext w w' := by
 obtain ⟨_,a,cap,rfl⟩ := hs.shape;have HS := hide hs;have HZ := hide hz;have HCAP := hide hs.capb;have hlz := hs.shape.1;clear hs hz;by_cases h8 : 8 < L.length
 ·have HB := hide (show hchk L = 2 from if_pos h8);have h8z : (8 : Int) < L.length := by omega
  go_enter Tryz.func136,Tryz.ntmps136
  go_wp2;go_ret;exact ⟨ret_int HB.out.symm,zb⟩
 ·have HB := hide (show hchk L = hchkL [] L from if_neg h8);have h8z : (L.length : Int) <= 8 := by omega
  clear h8
  go_enter Tryz.func136,Tryz.ntmps136
  go_wp2_with fail
  go_loopw [3] (fun i wr => ∃ k : Nat,k <= L.length /\ i = .int .i64 k /\ hAt L k = hchkL [] L /\ Ext w wr) (fun i _ => L.length - (intOf i).toNat)
  case atStart => exact ⟨0,by omega,rfl,hAt_zero L,zb⟩
  case round =>
   obtain ⟨k,hk,rfl,hat,hext⟩ := hrel;by_cases hlt : k < L.length
   ·obtain ⟨b,off,rfl,hbb,hc1,hc2⟩ := heads_at (HS.out.ext hext) k hlt;have hpre : ∀ X,Ext wr X -> Heads X (.slice (some ⟨b,off,none⟩) k cap) (L.take k) := fun X hX => ((HS.out.ext hext).take k (by omega)).ext hX;have hstep := hAt_step L k hlt;have hsz := HZ.out _ (List.getElem_mem hlt);obtain ⟨⟨x1,x2⟩,hx⟩ : ∃ x,L[k] = x := ⟨_,rfl⟩;simp only [hx] at hc1 hc2 hstep hsz;rw [hat] at hstep;have hmay := fun u => may4_any x1 x2 u hsz.1 hsz.2
    have hget : ∀ X,Ext wr X -> Calls Tryz.prog 103 #[.slice (some ⟨b,off,none⟩) k cap,.string x1] X fun e w' => e = .returned (.tuple #[.string ((getH (L.take k) (bl x1)).getD ⟨#[]⟩),.bool (getH (L.take k) (bl x1)).isSome]) /\ w' = X := fun X hX =>
     have htl : (L.take k).length = k := by rw [List.length_take]; omega
     (rget_any (L.take k) x1 (.slice (some ⟨b,off,none⟩) k cap) X (hpre X hX)).mono (fun _ _ h => ⟨h.1,h.2.symm⟩)
    obtain ⟨t,ht⟩ : ∃ t,mayB (bl x1) (bl x2) = t := ⟨_,rfl⟩;obtain ⟨g,hg⟩ : ∃ g,(getH (L.take k) (bl x1)).isSome = g := ⟨_,rfl⟩;obtain ⟨gv,hgv⟩ : ∃ gv,(getH (L.take k) (bl x1)).getD ⟨#[]⟩ = gv := ⟨_,rfl⟩;simp only [ht,hg,hgv] at hmay hget hstep;have HMAY := hide hmay;have HGET := hide hget;have HST := hide hstep;have hcx : ∀ X,Ext wr X -> X.cell? ⟨b,off + k * 2,none⟩ = some (.string x1) := fun X hX => (hX.cell (p := ⟨b,off + k * 2,none⟩) hbb).trans hc1;have HCX := hide hcx;have hkc : (k : Int) <= cap := (by have := HCAP.out; omega);have hkl : (k : Int) < L.length := (by omega);have hk0 : (0 : Int) <= k := (by omega);clear hmay hget hstep hcx ht hg hgv hx hsz hat hpre
    go_wp2_with fail
    refine (HMAY.out _).mono ?_;rintro e w7 ⟨rfl,E7⟩
    cases t with
    | false =>
     have hr := HST.out;rw [if_neg (by simp)] at hr;have HR := hide hr;clear hr hc1 hc2;go_wp2;go_ret
     exact ⟨ret_int (by rw [HB.out,HR.out]),hext.trans E7⟩
    | true =>
     have hr := HST.out;rw [if_pos rfl] at hr;have hc7 := HCX.out _ E7;clear hc1 hc2;have HR := hide hr;clear hr
     go_wp2_with fail
     go_quiet ((go_at_call 103; refine Calls.quiet_of_same (HGET.out _ (Below.drewN' E7 _))))
     all_goals
      cases g with
      | true =>
       have hr := HR.out;rw [if_pos rfl] at hr;have HR2 := hide hr;clear hr;go_wp2;go_ret
       exact ⟨ret_int (by rw [HB.out,HR2.out]),Below.drewN' (hext.trans E7) _⟩
      | false =>
       have hr := HR.out;rw [if_neg (by simp)] at hr;have HR2 := hide hr;clear hr;go_wp2
       go_roundw
       case rel => exact ⟨k + 1,hlt,by go_num,HR2.out.symm,Below.drewN' (hext.trans E7) _⟩
       case measure => simp [intOf]; omega
   ·obtain rfl : k = L.length := (by omega);rw [hAt_end] at hat;have HR := hide hat;clear hat;go_wp2;go_ret;exact ⟨ret_int (by rw [HB.out]; exact HR.out),hext⟩
theorem place_some (L : List HeadD) (nm : List UInt8) : (getH L nm).isSome = decide (0 <= placeI L nm) /\ -1 <= placeI L nm /\ placeI L nm <= L.length := by
 rcases placeI_cases L nm with ⟨k,hk,h1,h2⟩ | ⟨h1,h2⟩
 ·rw [h1,h2];refine ⟨?_,by omega,by omega⟩;symm; simp
 ·rw [h1,h2];exact ⟨rfl,by omega,by omega⟩
theorem hhchk_any (L : List HeadD) (v : Value) (w : World) (hs : Heads w v L) (hz : HSz L) :
  Calls Tryz.prog 108 #[v] w fun e w' => e = .returned (.int .i64 (hchk L)) /\ Ext w w' := by
 obtain ⟨_,a,cap,rfl⟩ := hs.shape;have HS := hide hs;have HZ := hide hz;have HCAP := hide hs.capb;have hlz := hs.shape.1;clear hs hz;by_cases h8 : 8 < L.length
 ·have HB := hide (show hchk L = 2 from if_pos h8);have h8z : (8 : Int) < L.length := by omega
  go_enter Tryz.func108,Tryz.ntmps108
  go_wp2;go_ret;exact ⟨ret_int HB.out.symm,zb⟩
 ·have HB := hide (show hchk L = hchkL [] L from if_neg h8);have h8z : (L.length : Int) <= 8 := by omega
  clear h8
  go_enter Tryz.func108,Tryz.ntmps108
  go_wp2_with fail
  go_loopw [10] (fun i wr => ∃ k : Nat,k <= L.length /\ i = .int .i64 k /\ hAt L k = hchkL [] L /\ Ext w wr) (fun i _ => L.length - (intOf i).toNat)
  case atStart => exact ⟨0,by omega,rfl,hAt_zero L,zb⟩
  case round =>
   obtain ⟨k,hk,rfl,hat,hext⟩ := hrel;by_cases hlt : k < L.length
   ·obtain ⟨b,off,rfl,hbb,hc1,hc2⟩ := heads_at (HS.out.ext hext) k hlt;have hpre : ∀ X,Ext wr X -> Heads X (.slice (some ⟨b,off,none⟩) k cap) (L.take k) := fun X hX => ((HS.out.ext hext).take k (by omega)).ext hX;have hstep := hAt_step L k hlt;have hsz := HZ.out _ (List.getElem_mem hlt);have hps := place_some (L.take k);obtain ⟨⟨x1,x2⟩,hx⟩ : ∃ x,L[k] = x := ⟨_,rfl⟩;simp only [hx] at hc1 hc2 hstep hsz;rw [hat] at hstep;have hmay := fun u => mayh_any x1 x2 u hsz.1 hsz.2
    have hpl : ∀ X,Ext wr X -> Calls Tryz.prog 144 #[.slice (some ⟨b,off,none⟩) k cap,.string x1] X fun e w' => e = .returned (.int .i64 (placeI (L.take k) (bl x1))) /\ Ext X w' := fun X hX =>
     place_any (L.take k) x1 (.slice (some ⟨b,off,none⟩) k cap) X (hpre X hX)
    obtain ⟨t,ht⟩ : ∃ t,mayB (bl x1) (bl x2) = t := ⟨_,rfl⟩;obtain ⟨hp1,hp2,hp3⟩ := hps (bl x1);rw [hp1] at hstep;obtain ⟨q,hq⟩ : ∃ q,placeI (L.take k) (bl x1) = q := ⟨_,rfl⟩;simp only [ht,hq] at hmay hpl hstep;have HMAY := hide hmay;have HPL := hide hpl;have HST := hide hstep;have hkc : (k : Int) <= cap := (by have := HCAP.out; omega);have hkl : (k : Int) < L.length := (by omega);have hk0 : (0 : Int) <= k := (by omega);have e1 : Ext wr (wr.alloc (.cells #[.string x1,.string x2] 114)) := za;have hcx : ∀ X,Ext (wr.alloc (.cells #[.string x1,.string x2] 114)) X -> X.cell? ⟨wr.heap.size,0,none⟩ = some (.string x1) := fun X hX => (hX.cell (p := ⟨wr.heap.size,0,none⟩) (by simp)).trans (by go_simp);have HCX := hide hcx;have HE1 := hide e1;clear hmay hpl hstep hcx ht hq hx hsz hat hpre hps hp1 hp2 hp3 e1
    go_wp2_with fail
    refine (HMAY.out _).mono ?_;rintro e w7 ⟨rfl,E7⟩
    cases t with
    | false =>
     have hr := HST.out;rw [if_neg (by simp)] at hr;have HR := hide hr;clear hr hc1 hc2;go_wp2;go_ret
     exact ⟨ret_int (by rw [HB.out,HR.out]),hext.trans (HE1.out.trans E7)⟩
    | true =>
     have hr := HST.out;rw [if_pos rfl] at hr;have hc7 := HCX.out _ E7;have E7d := hide (show Ext (wr.alloc (.cells #[.string x1,.string x2] 114)) w7.drew from Below.drew E7);clear hc1 hc2;have HR := hide hr;clear hr
     go_wp2_with fail
     go_region_held3 (fun w' => w'.cell? ⟨wr.heap.size,0,none⟩ = some (.string x1))
      (first
       | exact HCX.out _ (E7d.out.trans E8)
       | exact HCX.out _ E7d.out)
      (first | (go_at_call 144; refine (HPL.out _ (HE1.out.trans E7d.out)).mono ?_; rintro e w8 ⟨rfl,E8⟩))
     by_cases hq0 : 0 <= q
     ·have hr := HR.out;rw [if_pos (by simpa using hq0)] at hr;have HR2 := hide hr;clear hr;go_wp2;go_ret;exact ⟨ret_int (by rw [HB.out,HR2.out]),hext.trans (HE1.out.trans (E7d.out.trans E8))⟩
     ·have hr := HR.out;rw [if_neg (by simpa using hq0)] at hr;have HR2 := hide hr;clear hr;go_wp2
      go_roundw
      case rel => exact ⟨k + 1,hlt,by go_num,HR2.out.symm,hext.trans (HE1.out.trans (E7d.out.trans E8))⟩
      case measure => simp [intOf]; omega
   ·obtain rfl : k = L.length := (by omega);rw [hAt_end] at hat;have HR := hide hat;clear hat;go_wp2;go_ret;exact ⟨ret_int (by rw [HB.out]; exact HR.out),hext⟩
end Go.Proofs.YtoaiakhnnfbkdaaGreatDoor
