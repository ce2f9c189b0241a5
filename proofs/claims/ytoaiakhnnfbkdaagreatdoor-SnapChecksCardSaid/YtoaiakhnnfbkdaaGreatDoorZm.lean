import Derived.Test.YtoaiakhnnfbkdaaGreatDoorZh

/- match: begins,On,Fits,Check; the reference's Check. -/
set_option maxRecDepth 100000
set_option maxHeartbeats 32000000
namespace Go.Proofs
open Go.Shelf
end Go.Proofs
namespace Go.Proofs.YtoaiakhnnfbkdaaGreatDoor
open Go.ChangeShapes Go.WideShapes Go.ChangeAt Go.RowKit Go.Lib Go.Shelf
def mchk (p : List UInt8) (L : List HeadD) : Int := if isPath p = true then hchk L else 10
theorem mchk_any (mp : ByteArray) (ex : Bool) (L : List HeadD) (hv : Value) (w : World) (hs : mp.size <= 9223372036854775807) (hm : MaxV w) (hh : Heads w hv L) (hz : HSz L) :
  Calls Tryz.prog 80 #[.agg #[.string mp,.bool ex,hv]] w fun e w' => e = .returned (.int .i64 (mchk (bl mp) L)) /\ Ext w w' := by
 obtain ⟨_,a,c,rfl⟩ := hh.shape;have e0 : Ext w (w.alloc (.cells #[.string mp,.bool ex,.slice a L.length c] 60)) := za;have hpath := mpath_any mp _ hs (hm.ext e0);have hcx : ∀ X,Ext (w.alloc (.cells #[.string mp,.bool ex,.slice a L.length c] 60)) X -> X.cell? ⟨w.heap.size,2,none⟩ = some (.slice a L.length c) := fun X hX => (hX.cell (p := ⟨w.heap.size,2,none⟩) (by simp)).trans (by go_simp);have HCX := hide hcx;have HE0 := hide e0;have HH := hide hh;have HZ := hide hz;obtain ⟨t,ht⟩ : ∃ t,isPath mp.data.toList = t := ⟨_,rfl⟩;have hon : mchk (bl mp) L = if t = true then hchk L else 10 := by unfold mchk; rw [<- ht]; rfl
 rw [ht] at hpath;have HP := hide hpath;have HON := hide hon;clear hpath hcx e0 ht hon hm hh hz
 go_enter Tryz.func80,Tryz.ntmps80
 go_wp2_with fail
 refine HP.out.mono ?_;rintro e w1 ⟨rfl,E1⟩;have c2 := HCX.out _ E1
 cases t with
 | false =>
  go_wp2;go_ret
  exact ⟨ret_int (by rw [HON.out]; rfl),HE0.out.trans E1⟩
 | true =>
  go_wp2_with fail
  refine (hhchk_any L _ _ ((HH.out.ext HE0.out).ext E1) HZ.out).mono ?_;rintro e w2 ⟨rfl,E2⟩;go_wp2;go_ret;exact ⟨ret_int (by rw [HON.out]; rfl),HE0.out.trans (E1.trans E2)⟩
theorem rmchk_any (mp : ByteArray) (ex : Bool) (L : List HeadD) (hv : Value) (w : World) (hs : mp.size <= 9223372036854775807) (hh : Heads w hv L) (hz : HSz L) :
  Calls Tryz.prog 97 #[.agg #[.string mp,.bool ex,hv]] w fun e w' => e = .returned (.int .i64 (mchk (bl mp) L)) /\ Ext w w' := by
 obtain ⟨_,a,c,rfl⟩ := hh.shape;have e0 : Ext w (w.alloc (.cells #[.string mp,.bool ex,.slice a L.length c] 60)) := za;have hpath := path5_any mp (w.alloc (.cells #[.string mp,.bool ex,.slice a L.length c] 60)) hs;have hcx : ∀ X,Ext (w.alloc (.cells #[.string mp,.bool ex,.slice a L.length c] 60)) X -> X.cell? ⟨w.heap.size,2,none⟩ = some (.slice a L.length c) := fun X hX => (hX.cell (p := ⟨w.heap.size,2,none⟩) (by simp)).trans (by go_simp);have HCX := hide hcx;have HE0 := hide e0;have HH := hide hh;have HZ := hide hz;obtain ⟨t,ht⟩ : ∃ t,isPath mp.data.toList = t := ⟨_,rfl⟩;have hon : mchk (bl mp) L = if t = true then hchk L else 10 := by unfold mchk; rw [<- ht]; rfl
 rw [ht] at hpath;have HP := hide hpath;have HON := hide hon;clear hpath hcx e0 ht hon hh hz
 go_enter Tryz.func97,Tryz.ntmps97
 go_wp2_with fail
 refine HP.out.mono ?_;rintro e w1 ⟨rfl,E1⟩;have c2 := HCX.out _ E1
 cases t with
 | false =>
  go_wp2;go_ret
  exact ⟨ret_int (by rw [HON.out]; rfl),HE0.out.trans E1⟩
 | true =>
  go_wp2_with fail
  refine (rhchk_any L _ _ ((HH.out.ext HE0.out).ext E1) HZ.out).mono ?_;rintro e w2 ⟨rfl,E2⟩;go_wp2;go_ret;exact ⟨ret_int (by rw [HON.out]; rfl),HE0.out.trans (E1.trans E2)⟩
end Go.Proofs.YtoaiakhnnfbkdaaGreatDoor
