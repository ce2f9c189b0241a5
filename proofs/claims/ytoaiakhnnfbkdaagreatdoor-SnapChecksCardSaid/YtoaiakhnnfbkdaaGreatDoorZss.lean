/- Lemmas. -/
import Derived.Test.YtoaiakhnnfbkdaaGreatDoorZdd
set_option maxRecDepth 100000
set_option maxHeartbeats 32000000
namespace Go.Proofs.YtoaiakhnnfbkdaaGreatDoor
open Go.ChangeShapes Go.WideShapes Go.ChangeAt Go.RowKit Go.Lib Go.Shelf Go.Maps
theorem svcs_at {w : World} {a : Option Addr} {n cap : Nat} {xs : List SvcD} (h : Svcs w (.slice a n cap) xs) (i : Nat) (hi : i < xs.length) :
  ∃ b off,a = some ⟨b,off,none⟩ /\ b < w.heap.size /\ w.rangeAt b (off + i * 7) (encV xs[i]) := by
 obtain ⟨_,a',cap',hv,_,hc⟩ := h;cases hv;obtain ⟨b,off,ha,hb,hc⟩ := hc i xs[i] (List.getElem?_eq_getElem hi);exact ⟨b,off,ha,hb,fun j v hv => by simpa using hc j v hv⟩
theorem there16_any (c : ConfD) (id : Int) (w : World) (hs : Svcs w c.sv c.S) :
  Calls Tryz.prog 65 #[c.val,.int .i64 id] w fun e w' => e = .returned (.bool (thereB c.S id)) /\ Ext w w' := by
 obtain ⟨hl',aS,cS,hvS⟩ := hs.shape;have hx : Ext w (w.alloc (.cells #[c.sv,c.ev,c.rv,c.tv,.int .i64 c.w0,.int .i64 c.w1,.int .i64 c.w2,.int .i64 c.w3,.int .i64 c.w4,.int .i64 c.w5,.int .i64 c.w6,.int .i64 c.panic,.int .i64 c.low,.int .i64 c.high,.int .i64 c.wait,.int .i64 c.hop,.int .i64 c.life,.int .i64 c.purse,.int .i64 c.horizon,.int .i64 c.sample] 30)) := za;have hb1 : (w.alloc (.cells #[c.sv,c.ev,c.rv,c.tv,.int .i64 c.w0,.int .i64 c.w1,.int .i64 c.w2,.int .i64 c.w3,.int .i64 c.w4,.int .i64 c.w5,.int .i64 c.w6,.int .i64 c.panic,.int .i64 c.low,.int .i64 c.high,.int .i64 c.wait,.int .i64 c.hop,.int .i64 c.life,.int .i64 c.purse,.int .i64 c.horizon,.int .i64 c.sample] 30)).cell? ⟨w.heap.size,0,none⟩ = some (.slice aS c.S.length cS) := by rw [<- hvS]; simp
 rw [hvS] at hs;clear hvS;generalize c.S = S at *;have HC := hide hs;clear hs;show Calls Tryz.prog 65 #[.agg #[c.sv,c.ev,c.rv,c.tv,.int .i64 c.w0,.int .i64 c.w1,.int .i64 c.w2,.int .i64 c.w3,.int .i64 c.w4,.int .i64 c.w5,.int .i64 c.w6,.int .i64 c.panic,.int .i64 c.low,.int .i64 c.high,.int .i64 c.wait,.int .i64 c.hop,.int .i64 c.life,.int .i64 c.purse,.int .i64 c.horizon,.int .i64 c.sample],.int .i64 id] w _
 go_enter Tryz.func65,Tryz.ntmps65
 go_wp2_with fail
 generalize w.alloc (.cells #[c.sv,c.ev,c.rv,c.tv,.int .i64 c.w0,.int .i64 c.w1,.int .i64 c.w2,.int .i64 c.w3,.int .i64 c.w4,.int .i64 c.w5,.int .i64 c.w6,.int .i64 c.panic,.int .i64 c.low,.int .i64 c.high,.int .i64 c.wait,.int .i64 c.hop,.int .i64 c.life,.int .i64 c.purse,.int .i64 c.horizon,.int .i64 c.sample] 30) = W at hx hb1 ⊢;have HX := hide hx;have hcl : ∀ X,Ext W X -> X.cell? ⟨w.heap.size,0,none⟩ = some (.slice aS S.length cS) := fun X hX => (hX.cell (p := ⟨w.heap.size,0,none⟩) (World.block_lt_of_cell? W _ hb1)).trans hb1;have HCL := hide hcl;clear hx hb1 hcl
 go_loopw [5] (fun v5 wr => ∃ k : Nat,k <= S.length /\ v5 = .int .i64 k /\ Hid (thereB (S.take k) id = false) /\ Hid (Ext W wr)) (fun i _ => S.length - (intOf i).toNat)
 case atStart => exact ⟨0,Nat.zero_le _,rfl,rfl,zb⟩
 case round =>
  obtain ⟨k,hk,rfl,hno,hext⟩ := hrel;have HNO := hide hno.out;have HY := hide hext.out;clear hno hext;have q1 := HCL.out wr HY.out;by_cases hlt : k < S.length
  ·have hltz : (k : Int) < S.length := (by omega);have hwk : IntKind.i64.wrap ((k : Int) + 1) = ((k + 1 : Nat) : Int) := (by rw [IntKind.wrap_i64]; omega);obtain ⟨b,off,rfl,hbb,hr⟩ := svcs_at (HC.out.ext (HX.out.trans HY.out)) k hlt;have d1 : wr.cell? ⟨b,off + k * 7,none⟩ = some (.int .i64 S[k].id) := hr 0 _ rfl
   have hsn : thereB (S.take (k + 1)) id = (S[k].id == id) := by
    have := HNO.out;unfold thereB at this ⊢;rw [take_snoc S k hlt,List.any_append,this];simp
   have hin : S[k].id = id -> thereB S id = true := fun h => List.any_eq_true.2 ⟨_,List.getElem_mem hlt,by simpa using h⟩;generalize S[k].id = x at d1 hsn hin;clear hr;by_cases he : x = id
   ·subst he;have HIN := hide (hin rfl);clear hin hsn;go_wp2;go_ret;exact ⟨ret_bool HIN.out.symm,HX.out.trans HY.out⟩
   ·have hne : (x == id) = false := (by simp [he]);rw [hne] at hsn;have HSN := hide hsn;clear hin hsn;go_wp2
    go_roundw
    case rel => exact ⟨k + 1,hlt,by go_num,HSN.out,HY.out⟩
    case measure => simp [intOf]; omega
  ·obtain rfl : k = S.length := (by omega);have hno := HNO.out;rw [List.take_length] at hno;have HN := hide hno; clear hno;go_wp2;go_ret;exact ⟨ret_bool HN.out.symm,HX.out.trans HY.out⟩
end Go.Proofs.YtoaiakhnnfbkdaaGreatDoor
