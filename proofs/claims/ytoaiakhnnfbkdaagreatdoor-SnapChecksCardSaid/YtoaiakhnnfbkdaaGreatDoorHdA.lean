import Derived.Test.YtoaiakhnnfbkdaaGreatDoorZq
set_option maxRecDepth 100000
set_option maxHeartbeats 32000000
namespace Go.Proofs.YtoaiakhnnfbkdaaGreatDoor
open Go.ChangeShapes Go.WideShapes Go.ChangeAt Go.RowKit Go.Lib Go.Shelf
abbrev HeadD := ByteArray × ByteArray
def encH (h : HeadD) : List Value := [.string h.1,.string h.2]
theorem encH_len (h : HeadD) : (encH h).length = 2 := rfl
abbrev Heads := Sl encH 2
theorem heads_at {w : World} {a : Option Addr} {n cap : Nat} {xs : List HeadD} (h : Heads w (.slice a n cap) xs) (i : Nat) (hi : i < xs.length) :
  ∃ b off,a = some ⟨b,off,none⟩ /\ b < w.heap.size /\ w.cell? ⟨b,off + i * 2,none⟩ = some (.string xs[i].1) /\ w.cell? ⟨b,off + i * 2 + 1,none⟩ = some (.string xs[i].2) := by
 obtain ⟨_,a',cap',hv,_,hc⟩ := h;cases hv;obtain ⟨b,off,ha,hb,hc⟩ := hc i xs[i] (List.getElem?_eq_getElem hi);exact ⟨b,off,ha,hb,by simpa using hc 0 _ rfl,by simpa using hc 1 _ rfl⟩
def nmN (n : Nat) : Bool := (decide (97 <= n) && decide (n <= 122)) || (decide (48 <= n) && decide (n <= 57)) || n == 45
def vlN (n : Nat) : Bool := decide (32 <= n) && decide (n <= 126)
def nmC (c : UInt8) : Bool := nmN c.toNat
def vlC (c : UInt8) : Bool := vlN c.toNat
def mayB (n v : List UInt8) : Bool := decide (1 <= n.length) && decide (n.length <= 20) && decide (v.length <= 60) && n.all nmC && v.all vlC
theorem bl_len (s : ByteArray) : (bl s).length = s.size := by unfold bl; rw [Lib.size_eq]
theorem all_succ (p : UInt8 -> Bool) (s : ByteArray) (k : Nat) (h : k < s.size) : ((bl s).take (k + 1)).all p = (((bl s).take k).all p && p s[k]) := by
 have hl : k < (bl s).length := by rw [bl_len]; exact h
 rw [take_snoc _ k hl,List.all_append];have hg := data_getElem? s k h
 have : (bl s)[k] = s[k] := by
  unfold bl at hl ⊢;rw [List.getElem?_eq_getElem hl] at hg;exact Option.some.inj hg
 rw [this,List.all_cons,List.all_nil,Bool.and_true];rfl
theorem all_bad (p : UInt8 -> Bool) (s : ByteArray) (k : Nat) (h : k < s.size) (hb : p s[k] = false) : (bl s).all p = false := by
 rw [List.all_eq_false];exact ⟨s[k],List.mem_of_getElem? (data_getElem? s k h),by rw [hb]; simp⟩
theorem all_end (p : UInt8 -> Bool) (s : ByteArray) (h : ((bl s).take s.size).all p = true) : (bl s).all p = true := by
 rwa [List.take_of_length_le (by rw [bl_len]; exact Nat.le_refl _)] at h
theorem may4_any (n v : ByteArray) (w : World) (hn : n.size <= 9223372036854775807) (hv : v.size <= 9223372036854775807) :
  Calls Tryz.prog 138 #[.agg #[.string n,.string v]] w fun e w' => e = .returned (.bool (mayB (bl n) (bl v))) /\ Ext w w' := by
 have e0 : Ext w (w.alloc (.cells #[.string n,.string v] 114)) := za;by_cases hsz : 1 <= n.size /\ n.size <= 20 /\ v.size <= 60
 ·obtain ⟨h1,h20,h60⟩ := hsz
  have hm : mayB (bl n) (bl v) = ((bl n).all nmC && (bl v).all vlC) := by
   unfold mayB;have a1 := bl_len n;have a2 := bl_len v;have b1 : 1 <= (bl n).length := (by omega);have b2 : (bl n).length <= 20 := (by omega);have b3 : (bl v).length <= 60 := (by omega);rw [decide_eq_true b1,decide_eq_true b2,decide_eq_true b3]; rfl
  have HM := hide hm;have h1z : (1 : Int) <= n.size := by omega
  have h20z : (n.size : Int) <= 20 := by omega
  have h60z : (v.size : Int) <= 60 := by omega
  clear hm
  go_enter Tryz.func138,Tryz.ntmps138
  go_wp2_with fail
  go_loop [3] (fun i => ∃ k : Nat,k <= n.size /\ i = .int .i64 k /\ ((bl n).take k).all nmC = true) (fun i => n.size - (intOf i).toNat)
  case atStart => exact ⟨0,by omega,rfl,by simp⟩
  case round =>
   obtain ⟨k,hk,rfl,hok⟩ := hrel;by_cases hlt : k < n.size
   ·have hsn := all_succ nmC n k hlt;have hbd := all_bad nmC n k hlt;rw [hok] at hsn;obtain ⟨c,hc⟩ : ∃ c,(n[k]'hlt).toNat = c := ⟨_,rfl⟩;have hcn : nmC (n[k]'hlt) = nmN c := (by unfold nmC; rw [hc]);rw [hcn] at hsn hbd;have HSN := hide hsn;have HBD := hide hbd;have hcb : c < 256 := (by rw [<- hc]; exact (n[k]'hlt).toNat_lt);clear hsn hbd hok hcn;have hcl : (97 <= c /\ c <= 122) \/ (48 <= c /\ c <= 57) \/ c = 45 \/ c < 45 \/ (45 < c /\ c < 48) \/ (57 < c /\ c < 97) \/ 122 < c := (by omega);rcases hcl with ⟨g1,g2⟩ | ⟨g1,g2⟩ | rfl | g1 | ⟨g1,g2⟩ | ⟨g1,g2⟩ | g1
    ·have z0 : (97 : Int) <= c := (by omega);have z1 : (c : Int) <= 122 := (by omega);have e45 : ((c : Int) != 45) = true := (by simp; omega);go_wp2
     go_round
     case rel => exact ⟨k + 1,hlt,by go_num,by rw [HSN.out]; simp [nmN]; omega⟩
     case measure => simp [intOf]; omega
    ·have z0 : (48 : Int) <= c := (by omega);have z1 : (c : Int) <= 57 := (by omega);have e45 : ((c : Int) != 45) = true := (by simp; omega);go_wp2
     go_round
     case rel => exact ⟨k + 1,hlt,by go_num,by rw [HSN.out]; simp [nmN]; omega⟩
     case measure => simp [intOf]; omega
    ·go_wp2
     go_round
     case rel => exact ⟨k + 1,hlt,by go_num,by rw [HSN.out]; simp [nmN]⟩
     case measure => simp [intOf]; omega
    ·have z0 : (c : Int) < 45 := (by omega);have e45 : ((c : Int) != 45) = true := (by simp; omega);go_wp2;go_ret;exact ⟨ret_bool (by rw [HM.out,HBD.out (by simp [nmN]; omega)]; rfl),e0⟩
    ·have z0 : (45 : Int) < c := (by omega);have z1 : (c : Int) < 48 := (by omega);have e45 : ((c : Int) != 45) = true := (by simp; omega);go_wp2;go_ret;exact ⟨ret_bool (by rw [HM.out,HBD.out (by simp [nmN]; omega)]; rfl),e0⟩
    ·have z0 : (57 : Int) < c := (by omega);have z1 : (c : Int) < 97 := (by omega);have e45 : ((c : Int) != 45) = true := (by simp; omega);go_wp2;go_ret;exact ⟨ret_bool (by rw [HM.out,HBD.out (by simp [nmN]; omega)]; rfl),e0⟩
    ·have z0 : (122 : Int) < c := (by omega);have e45 : ((c : Int) != 45) = true := (by simp; omega);go_wp2;go_ret;exact ⟨ret_bool (by rw [HM.out,HBD.out (by simp [nmN]; omega)]; rfl),e0⟩
   ·obtain rfl : k = n.size := (by omega);have hall := all_end nmC n hok;have HN := hide hall;clear hok hall
    go_wp2_with fail
    go_loop [5] (fun i => ∃ k : Nat,k <= v.size /\ i = .int .i64 k /\ ((bl v).take k).all vlC = true) (fun i => v.size - (intOf i).toNat)
    case atStart => exact ⟨0,by omega,rfl,by simp⟩
    case round =>
     obtain ⟨k,hk2,rfl,hok⟩ := hrel;by_cases hlt : k < v.size
     ·have hsn := all_succ vlC v k hlt;have hbd := all_bad vlC v k hlt;rw [hok] at hsn;obtain ⟨c,hc⟩ : ∃ c,(v[k]'hlt).toNat = c := ⟨_,rfl⟩;have hcn : vlC (v[k]'hlt) = vlN c := (by unfold vlC; rw [hc]);rw [hcn] at hsn hbd;have HSN := hide hsn;have HBD := hide hbd;clear hsn hbd hok hcn;have hcl : c < 32 \/ 126 < c \/ (32 <= c /\ c <= 126) := (by omega);rcases hcl with g1 | g1 | ⟨g1,g2⟩
      ·have z0 : (c : Int) < 32 := (by omega);go_wp2;go_ret;exact ⟨ret_bool (by rw [HM.out,HN.out,HBD.out (by simp [vlN]; omega)]; rfl),e0⟩
      ·have z0 : (126 : Int) < c := (by omega);go_wp2;go_ret;exact ⟨ret_bool (by rw [HM.out,HN.out,HBD.out (by simp [vlN]; omega)]; rfl),e0⟩
      ·have z0 : (32 : Int) <= c := (by omega);have z1 : (c : Int) <= 126 := (by omega);go_wp2
       go_round
       case rel => exact ⟨k + 1,hlt,by go_num,by rw [HSN.out]; simp [vlN]; omega⟩
       case measure => simp [intOf]; omega
     ·obtain rfl : k = v.size := (by omega);have hall := all_end vlC v hok;have HV := hide hall;clear hok hall;go_wp2;go_ret;exact ⟨ret_bool (by rw [HM.out,HN.out,HV.out]; rfl),e0⟩
 ·have hm : mayB (bl n) (bl v) = false := by
   unfold mayB;have a1 := bl_len n;have a2 := bl_len v;by_cases b1 : 1 <= (bl n).length
   ·by_cases b2 : (bl n).length <= 20
    ·have b3 : ¬ (bl v).length <= 60 := (by omega);simp [b3]
    ·simp [b2]
   ·simp [b1]
  have HM := hide hm;clear hm;have hcl : n.size < 1 \/ (1 <= n.size /\ 20 < n.size) \/ (1 <= n.size /\ n.size <= 20 /\ 60 < v.size) := by omega
  clear hsz;rcases hcl with g1 | ⟨g1,g2⟩ | ⟨g1,g2,g3⟩
  ·have z0 : (n.size : Int) < 1 := by omega
   go_enter Tryz.func138,Tryz.ntmps138
   go_wp2;go_ret;exact ⟨ret_bool HM.out.symm,e0⟩
  ·have z0 : (1 : Int) <= n.size := (by omega);have z1 : (20 : Int) < n.size := by omega
   go_enter Tryz.func138,Tryz.ntmps138
   go_wp2;go_ret;exact ⟨ret_bool HM.out.symm,e0⟩
  ·have z0 : (1 : Int) <= n.size := (by omega);have z1 : (n.size : Int) <= 20 := (by omega);have z2 : (60 : Int) < v.size := by omega
   go_enter Tryz.func138,Tryz.ntmps138
   go_wp2;go_ret;exact ⟨ret_bool HM.out.symm,e0⟩
theorem mayh_any (n v : ByteArray) (w : World) (hn : n.size <= 9223372036854775807) (hv : v.size <= 9223372036854775807) :
  Calls Tryz.prog 143 #[.agg #[.string n,.string v]] w fun e w' => e = .returned (.bool (mayB (bl n) (bl v))) /\ Ext w w' := by
 have e0 : Ext w (w.alloc (.cells #[.string n,.string v] 114)) := za;by_cases hsz : 1 <= n.size /\ n.size <= 20 /\ v.size <= 60
 ·obtain ⟨h1,h20,h60⟩ := hsz
  have hm : mayB (bl n) (bl v) = ((bl n).all nmC && (bl v).all vlC) := by
   unfold mayB;have a1 := bl_len n;have a2 := bl_len v;have b1 : 1 <= (bl n).length := (by omega);have b2 : (bl n).length <= 20 := (by omega);have b3 : (bl v).length <= 60 := (by omega);rw [decide_eq_true b1,decide_eq_true b2,decide_eq_true b3]; rfl
  have HM := hide hm;have h1z : (1 : Int) <= n.size := by omega
  have h20z : (n.size : Int) <= 20 := by omega
  have h60z : (v.size : Int) <= 60 := by omega
  clear hm
  go_enter Tryz.func143,Tryz.ntmps143
  go_wp2_with fail
  go_loop [25] (fun i => ∃ k : Nat,k <= n.size /\ i = .int .i64 k /\ ((bl n).take k).all nmC = true) (fun i => n.size - (intOf i).toNat)
  case atStart => exact ⟨0,by omega,rfl,by simp⟩
  case round =>
   obtain ⟨k,hk,rfl,hok⟩ := hrel;by_cases hlt : k < n.size
   ·have hsn := all_succ nmC n k hlt;have hbd := all_bad nmC n k hlt;rw [hok] at hsn;obtain ⟨c,hc⟩ : ∃ c,(n[k]'hlt).toNat = c := ⟨_,rfl⟩;have hcn : nmC (n[k]'hlt) = nmN c := (by unfold nmC; rw [hc]);rw [hcn] at hsn hbd;have HSN := hide hsn;have HBD := hide hbd;have hcb : c < 256 := (by rw [<- hc]; exact (n[k]'hlt).toNat_lt);clear hsn hbd hok hcn;have hcl : (97 <= c /\ c <= 122) \/ (48 <= c /\ c <= 57) \/ c = 45 \/ c < 45 \/ (45 < c /\ c < 48) \/ (57 < c /\ c < 97) \/ 122 < c := (by omega);rcases hcl with ⟨g1,g2⟩ | ⟨g1,g2⟩ | rfl | g1 | ⟨g1,g2⟩ | ⟨g1,g2⟩ | g1
    ·have z0 : (97 : Int) <= c := (by omega);have z1 : (c : Int) <= 122 := (by omega);have e45 : ((c : Int) != 45) = true := (by simp; omega);go_wp2
     go_round
     case rel => exact ⟨k + 1,hlt,by go_num,by rw [HSN.out]; simp [nmN]; omega⟩
     case measure => simp [intOf]; omega
    ·have z0 : (48 : Int) <= c := (by omega);have z1 : (c : Int) <= 57 := (by omega);have e45 : ((c : Int) != 45) = true := (by simp; omega);go_wp2
     go_round
     case rel => exact ⟨k + 1,hlt,by go_num,by rw [HSN.out]; simp [nmN]; omega⟩
     case measure => simp [intOf]; omega
    ·go_wp2
     go_round
     case rel => exact ⟨k + 1,hlt,by go_num,by rw [HSN.out]; simp [nmN]⟩
     case measure => simp [intOf]; omega
    ·have z0 : (c : Int) < 45 := (by omega);have e45 : ((c : Int) != 45) = true := (by simp; omega);go_wp2;go_ret;exact ⟨ret_bool (by rw [HM.out,HBD.out (by simp [nmN]; omega)]; rfl),e0⟩
    ·have z0 : (45 : Int) < c := (by omega);have z1 : (c : Int) < 48 := (by omega);have e45 : ((c : Int) != 45) = true := (by simp; omega);go_wp2;go_ret;exact ⟨ret_bool (by rw [HM.out,HBD.out (by simp [nmN]; omega)]; rfl),e0⟩
    ·have z0 : (57 : Int) < c := (by omega);have z1 : (c : Int) < 97 := (by omega);have e45 : ((c : Int) != 45) = true := (by simp; omega);go_wp2;go_ret;exact ⟨ret_bool (by rw [HM.out,HBD.out (by simp [nmN]; omega)]; rfl),e0⟩
    ·have z0 : (122 : Int) < c := (by omega);have e45 : ((c : Int) != 45) = true := (by simp; omega);go_wp2;go_ret;exact ⟨ret_bool (by rw [HM.out,HBD.out (by simp [nmN]; omega)]; rfl),e0⟩
   ·obtain rfl : k = n.size := (by omega);have hall := all_end nmC n hok;have HN := hide hall;clear hok hall
    go_wp2_with fail
    go_loop [54] (fun i => ∃ k : Nat,k <= v.size /\ i = .int .i64 k /\ ((bl v).take k).all vlC = true) (fun i => v.size - (intOf i).toNat)
    case atStart => exact ⟨0,by omega,rfl,by simp⟩
    case round =>
     obtain ⟨k,hk2,rfl,hok⟩ := hrel;by_cases hlt : k < v.size
     ·have hsn := all_succ vlC v k hlt;have hbd := all_bad vlC v k hlt;rw [hok] at hsn;obtain ⟨c,hc⟩ : ∃ c,(v[k]'hlt).toNat = c := ⟨_,rfl⟩;have hcn : vlC (v[k]'hlt) = vlN c := (by unfold vlC; rw [hc]);rw [hcn] at hsn hbd;have HSN := hide hsn;have HBD := hide hbd;clear hsn hbd hok hcn;have hcl : c < 32 \/ 126 < c \/ (32 <= c /\ c <= 126) := (by omega);rcases hcl with g1 | g1 | ⟨g1,g2⟩
      ·have z0 : (c : Int) < 32 := (by omega);go_wp2;go_ret;exact ⟨ret_bool (by rw [HM.out,HN.out,HBD.out (by simp [vlN]; omega)]; rfl),e0⟩
      ·have z0 : (126 : Int) < c := (by omega);go_wp2;go_ret;exact ⟨ret_bool (by rw [HM.out,HN.out,HBD.out (by simp [vlN]; omega)]; rfl),e0⟩
      ·have z0 : (32 : Int) <= c := (by omega);have z1 : (c : Int) <= 126 := (by omega);go_wp2
       go_round
       case rel => exact ⟨k + 1,hlt,by go_num,by rw [HSN.out]; simp [vlN]; omega⟩
       case measure => simp [intOf]; omega
     ·obtain rfl : k = v.size := (by omega);have hall := all_end vlC v hok;have HV := hide hall;clear hok hall;go_wp2;go_ret;exact ⟨ret_bool (by rw [HM.out,HN.out,HV.out]; rfl),e0⟩
 ·have hm : mayB (bl n) (bl v) = false := by
   unfold mayB;have a1 := bl_len n;have a2 := bl_len v;by_cases b1 : 1 <= (bl n).length
   ·by_cases b2 : (bl n).length <= 20
    ·have b3 : ¬ (bl v).length <= 60 := (by omega);simp [b3]
    ·simp [b2]
   ·simp [b1]
  have HM := hide hm;clear hm;have hcl : n.size < 1 \/ (1 <= n.size /\ 20 < n.size) \/ (1 <= n.size /\ n.size <= 20 /\ 60 < v.size) := by omega
  clear hsz;rcases hcl with g1 | ⟨g1,g2⟩ | ⟨g1,g2,g3⟩
  ·have z0 : (n.size : Int) < 1 := by omega
   go_enter Tryz.func143,Tryz.ntmps143
   go_wp2;go_ret;exact ⟨ret_bool HM.out.symm,e0⟩
  ·have z0 : (1 : Int) <= n.size := (by omega);have z1 : (20 : Int) < n.size := by omega
   go_enter Tryz.func143,Tryz.ntmps143
   go_wp2;go_ret;exact ⟨ret_bool HM.out.symm,e0⟩
  ·have z0 : (1 : Int) <= n.size := (by omega);have z1 : (n.size : Int) <= 20 := (by omega);have z2 : (60 : Int) < v.size := by omega
   go_enter Tryz.func143,Tryz.ntmps143
   go_wp2;go_ret;exact ⟨ret_bool HM.out.symm,e0⟩
end Go.Proofs.YtoaiakhnnfbkdaaGreatDoor
