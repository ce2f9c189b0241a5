/- Merged texts (HdA, Zh, Zm). -/
import Derived.Test.YtceaeiaoanhlnaaDoorZqw
import Derived.Deep.RegionHeld3
namespace Go.Proofs.YtceaeiaoanhlnaaDoor
open Go.ChangeShapes Go.WideShapes Go.ChangeAt Go.RowKit Go.Lib Go.Shelf
abbrev HeadD := ByteArray × ByteArray
def encH (h : HeadD) : List Value := [.string h.1, .string h.2]
theorem encH_len (h : HeadD) : (encH h).length = 2 := rfl
abbrev Heads := Sl encH 2
theorem heads_at {w : World} {a : Option Addr} {n cap : Nat} {xs : List HeadD} (h : Heads w (.slice a n cap) xs) (i : Nat) (hi : i < xs.length) :
  ∃ b off, a = some ⟨b, off, none⟩ ∧ b < w.heap.size ∧ w.cell? ⟨b, off + i * 2, none⟩ = some (.string xs[i].1) ∧ w.cell? ⟨b, off + i * 2 + 1, none⟩ = some (.string xs[i].2) := by
 obtain ⟨_, a', cap', hv, _, hc⟩ := h
 cases hv
 obtain ⟨b, off, ha, hb, hc⟩ := hc i xs[i] (List.getElem?_eq_getElem hi)
 exact ⟨b, off, ha, hb, by simpa using hc 0 _ rfl, by simpa using hc 1 _ rfl⟩
def nmN (n : Nat) : Bool := (decide (97 ≤ n) && decide (n ≤ 122)) || (decide (48 ≤ n) && decide (n ≤ 57)) || n == 45
def vlN (n : Nat) : Bool := decide (32 ≤ n) && decide (n ≤ 126)
def nmC (c : UInt8) : Bool := nmN c.toNat
def vlC (c : UInt8) : Bool := vlN c.toNat
/-- may a head be? -/
def mayB (n v : List UInt8) : Bool := decide (1 ≤ n.length) && decide (n.length ≤ 20) && decide (v.length ≤ 60) && n.all nmC && v.all vlC
theorem bl_len (s : ByteArray) : (bl s).length = s.size := by unfold bl; rw [Lib.size_eq]
theorem all_succ (p : UInt8 → Bool) (s : ByteArray) (k : Nat) (h : k < s.size) : ((bl s).take (k + 1)).all p = (((bl s).take k).all p && p s[k]) := by
 have hl : k < (bl s).length := by rw [bl_len]; exact h
 rw [take_snoc _ k hl, List.all_append]
 have hg := data_getElem? s k h
 have : (bl s)[k] = s[k] := by
  unfold bl at hl ⊢
  rw [List.getElem?_eq_getElem hl] at hg
  exact Option.some.inj hg
 rw [this, List.all_cons, List.all_nil, Bool.and_true]
 rfl
theorem all_bad (p : UInt8 → Bool) (s : ByteArray) (k : Nat) (h : k < s.size) (hb : p s[k] = false) : (bl s).all p = false := by
 rw [List.all_eq_false]
 exact ⟨s[k], List.mem_of_getElem? (data_getElem? s k h), by rw [hb]; simp⟩
theorem all_end (p : UInt8 → Bool) (s : ByteArray) (h : ((bl s).take s.size).all p = true) : (bl s).all p = true := by
 rwa [List.take_of_length_le (by rw [bl_len]; exact Nat.le_refl _)] at h
set_option maxRecDepth 100000 in
set_option maxHeartbeats 4000000 in
theorem mayh_any (n v : ByteArray) (w : World) (hn : n.size ≤ 9223372036854775807) (hv : v.size ≤ 9223372036854775807) :
  Calls Tryd.prog 125 #[.agg #[.string n, .string v]] w fun e w' => e = .returned (.bool (mayB (bl n) (bl v))) ∧ Ext w w' := by
 have e0 : Ext w (w.alloc (.cells #[.string n, .string v] 82)) := (Below.refl _ w).alloc (Nat.le_refl _) _
 by_cases hsz : 1 ≤ n.size ∧ n.size ≤ 20 ∧ v.size ≤ 60
 ·obtain ⟨h1, h20, h60⟩ := hsz
  have hm : mayB (bl n) (bl v) = ((bl n).all nmC && (bl v).all vlC) := by
   unfold mayB
   have a1 := bl_len n
   have a2 := bl_len v
   have b1 : 1 ≤ (bl n).length := by omega
   have b2 : (bl n).length ≤ 20 := by omega
   have b3 : (bl v).length ≤ 60 := by omega
   rw [decide_eq_true b1, decide_eq_true b2, decide_eq_true b3]; rfl
  have HM := hide hm
  have h1z : (1 : Int) ≤ n.size := by omega
  have h20z : (n.size : Int) ≤ 20 := by omega
  have h60z : (v.size : Int) ≤ 60 := by omega
  clear hm
  go_enter Tryd.func125, Tryd.ntmps125
  go_wp2_with fail
  go_loop [25] (fun i => ∃ k : Nat, k ≤ n.size ∧ i = .int .i64 k ∧ ((bl n).take k).all nmC = true) (fun i => n.size - (intOf i).toNat)
  case atStart => exact ⟨0, by omega, rfl, by simp⟩
  case round =>
   obtain ⟨k, hk, rfl, hok⟩ := hrel
   by_cases hlt : k < n.size
   ·have hsn := all_succ nmC n k hlt
    have hbd := all_bad nmC n k hlt
    rw [hok] at hsn
    obtain ⟨c, hc⟩ : ∃ c, (n[k]'hlt).toNat = c := ⟨_, rfl⟩
    have hcn : nmC (n[k]'hlt) = nmN c := by unfold nmC; rw [hc]
    rw [hcn] at hsn hbd
    have HSN := hide hsn
    have HBD := hide hbd
    have hcb : c < 256 := by rw [← hc]; exact (n[k]'hlt).toNat_lt
    clear hsn hbd hok hcn
    have hcl : (97 ≤ c ∧ c ≤ 122) ∨ (48 ≤ c ∧ c ≤ 57) ∨ c = 45 ∨ c < 45 ∨ (45 < c ∧ c < 48) ∨ (57 < c ∧ c < 97) ∨ 122 < c := by omega
    rcases hcl with ⟨g1, g2⟩ | ⟨g1, g2⟩ | rfl | g1 | ⟨g1, g2⟩ | ⟨g1, g2⟩ | g1
    ·have z0 : (97 : Int) ≤ c := by omega
     have z1 : (c : Int) ≤ 122 := by omega
     have e45 : ((c : Int) != 45) = true := by simp; omega
     go_wp2
     go_round
     case rel => exact ⟨k + 1, hlt, by go_num, by rw [HSN.out]; simp [nmN]; omega⟩
     case measure => simp [intOf]; omega
    ·have z0 : (48 : Int) ≤ c := by omega
     have z1 : (c : Int) ≤ 57 := by omega
     have e45 : ((c : Int) != 45) = true := by simp; omega
     go_wp2
     go_round
     case rel => exact ⟨k + 1, hlt, by go_num, by rw [HSN.out]; simp [nmN]; omega⟩
     case measure => simp [intOf]; omega
    ·go_wp2
     go_round
     case rel => exact ⟨k + 1, hlt, by go_num, by rw [HSN.out]; simp [nmN]⟩
     case measure => simp [intOf]; omega
    ·have z0 : (c : Int) < 45 := by omega
     have e45 : ((c : Int) != 45) = true := by simp; omega
     go_wp2
     go_ret
     exact ⟨ret_bool (by rw [HM.out, HBD.out (by simp [nmN]; omega)]; rfl), e0⟩
    ·have z0 : (45 : Int) < c := by omega
     have z1 : (c : Int) < 48 := by omega
     have e45 : ((c : Int) != 45) = true := by simp; omega
     go_wp2
     go_ret
     exact ⟨ret_bool (by rw [HM.out, HBD.out (by simp [nmN]; omega)]; rfl), e0⟩
    ·have z0 : (57 : Int) < c := by omega
     have z1 : (c : Int) < 97 := by omega
     have e45 : ((c : Int) != 45) = true := by simp; omega
     go_wp2
     go_ret
     exact ⟨ret_bool (by rw [HM.out, HBD.out (by simp [nmN]; omega)]; rfl), e0⟩
    ·have z0 : (122 : Int) < c := by omega
     have e45 : ((c : Int) != 45) = true := by simp; omega
     go_wp2
     go_ret
     exact ⟨ret_bool (by rw [HM.out, HBD.out (by simp [nmN]; omega)]; rfl), e0⟩
   ·obtain rfl : k = n.size := by omega
    have hall := all_end nmC n hok
    have HN := hide hall
    clear hok hall
    go_wp2_with fail
    go_loop [54] (fun i => ∃ k : Nat, k ≤ v.size ∧ i = .int .i64 k ∧ ((bl v).take k).all vlC = true) (fun i => v.size - (intOf i).toNat)
    case atStart => exact ⟨0, by omega, rfl, by simp⟩
    case round =>
     obtain ⟨k, hk2, rfl, hok⟩ := hrel
     by_cases hlt : k < v.size
     ·have hsn := all_succ vlC v k hlt
      have hbd := all_bad vlC v k hlt
      rw [hok] at hsn
      obtain ⟨c, hc⟩ : ∃ c, (v[k]'hlt).toNat = c := ⟨_, rfl⟩
      have hcn : vlC (v[k]'hlt) = vlN c := by unfold vlC; rw [hc]
      rw [hcn] at hsn hbd
      have HSN := hide hsn
      have HBD := hide hbd
      clear hsn hbd hok hcn
      have hcl : c < 32 ∨ 126 < c ∨ (32 ≤ c ∧ c ≤ 126) := by omega
      rcases hcl with g1 | g1 | ⟨g1, g2⟩
      ·have z0 : (c : Int) < 32 := by omega
       go_wp2
       go_ret
       exact ⟨ret_bool (by rw [HM.out, HN.out, HBD.out (by simp [vlN]; omega)]; rfl), e0⟩
      ·have z0 : (126 : Int) < c := by omega
       go_wp2
       go_ret
       exact ⟨ret_bool (by rw [HM.out, HN.out, HBD.out (by simp [vlN]; omega)]; rfl), e0⟩
      ·have z0 : (32 : Int) ≤ c := by omega
       have z1 : (c : Int) ≤ 126 := by omega
       go_wp2
       go_round
       case rel => exact ⟨k + 1, hlt, by go_num, by rw [HSN.out]; simp [vlN]; omega⟩
       case measure => simp [intOf]; omega
     ·obtain rfl : k = v.size := by omega
      have hall := all_end vlC v hok
      have HV := hide hall
      clear hok hall
      go_wp2
      go_ret
      exact ⟨ret_bool (by rw [HM.out, HN.out, HV.out]; rfl), e0⟩
 ·have hm : mayB (bl n) (bl v) = false := by
   unfold mayB
   have a1 := bl_len n
   have a2 := bl_len v
   by_cases b1 : 1 ≤ (bl n).length
   ·by_cases b2 : (bl n).length ≤ 20
    ·have b3 : ¬ (bl v).length ≤ 60 := by omega
     simp [b3]
    ·simp [b2]
   ·simp [b1]
  have HM := hide hm
  clear hm
  have hcl : n.size < 1 ∨ (1 ≤ n.size ∧ 20 < n.size) ∨ (1 ≤ n.size ∧ n.size ≤ 20 ∧ 60 < v.size) := by omega
  clear hsz
  rcases hcl with g1 | ⟨g1, g2⟩ | ⟨g1, g2, g3⟩
  ·have z0 : (n.size : Int) < 1 := by omega
   go_enter Tryd.func125, Tryd.ntmps125
   go_wp2
   go_ret
   exact ⟨ret_bool HM.out.symm, e0⟩
  ·have z0 : (1 : Int) ≤ n.size := by omega
   have z1 : (20 : Int) < n.size := by omega
   go_enter Tryd.func125, Tryd.ntmps125
   go_wp2
   go_ret
   exact ⟨ret_bool HM.out.symm, e0⟩
  ·have z0 : (1 : Int) ≤ n.size := by omega
   have z1 : (n.size : Int) ≤ 20 := by omega
   have z2 : (60 : Int) < v.size := by omega
   go_enter Tryd.func125, Tryd.ntmps125
   go_wp2
   go_ret
   exact ⟨ret_bool HM.out.symm, e0⟩
end Go.Proofs.YtceaeiaoanhlnaaDoor

/- heads: place, Get, Check; the reference's Get and Check. -/
namespace Go.Proofs.YtceaeiaoanhlnaaDoor
open Go.ChangeShapes Go.WideShapes Go.ChangeAt Go.RowKit Go.Lib Go.Shelf
theorem Sl.capb {α : Type} {enc : α → List Value} {size : Nat} {w : World} {a : Option Addr} {n cap : Nat} {xs : List α} (h : Sl enc size w (.slice a n cap) xs) : (n : Int) ≤ cap ∧ (cap : Int) ≤ 9223372036854775807 := by
 obtain ⟨h1, a', c', e, hc, _⟩ := h
 cases e
 omega
def isN (nm : List UInt8) (h : HeadD) : Bool := bl h.1 == nm
def getH (L : List HeadD) (nm : List UInt8) : Option ByteArray := (L.find? (isN nm)).map (·.2)
def placeI (L : List HeadD) (nm : List UInt8) : Int := match L.findIdx? (isN nm) with
 | some i => (i : Int)
 | none => -1
theorem placeI_hit (L : List HeadD) (nm : List UInt8) (k : Nat) (hk : k < L.length) (h : isN nm L[k] = true) (hn : ∀ j (hj : j < k), isN nm (L[j]'(by omega)) = false) : placeI L nm = k ∧ getH L nm = some L[k].2 := by
 have h1 : L.findIdx? (isN nm) = some k := List.findIdx?_eq_some_iff_getElem.2 ⟨hk, h, fun j hj => by simp [hn j hj]⟩
 have h2 : L.find? (isN nm) = some L[k] := List.find?_eq_some_iff_getElem.2 ⟨h, k, hk, rfl, fun j hj => by simp [hn j hj]⟩
 unfold placeI getH
 rw [h1, h2]
 exact ⟨rfl, rfl⟩
theorem placeI_miss (L : List HeadD) (nm : List UInt8) (hn : ∀ j (hj : j < L.length), isN nm L[j] = false) : placeI L nm = -1 ∧ getH L nm = none := by
 have hall : ∀ x ∈ L, isN nm x = false := fun x hx => by
  obtain ⟨j, hj, rfl⟩ := List.getElem_of_mem hx
  exact hn j hj
 have h1 : L.findIdx? (isN nm) = none := List.findIdx?_eq_none_iff.2 hall
 have h2 : L.find? (isN nm) = none := List.find?_eq_none.2 (fun x hx => by simp [hall x hx])
 unfold placeI getH
 rw [h1, h2]
 exact ⟨rfl, rfl⟩
theorem placeI_cases (L : List HeadD) (nm : List UInt8) : (∃ k : Nat, ∃ hk : k < L.length, placeI L nm = k ∧ getH L nm = some L[k].2) ∨ (placeI L nm = -1 ∧ getH L nm = none) := by
 cases h : L.findIdx? (isN nm) with
 | some k =>
  obtain ⟨hk, h1, h2⟩ := List.findIdx?_eq_some_iff_getElem.1 h
  exact .inl ⟨k, hk, placeI_hit L nm k hk h1 (fun j hj => by simpa using h2 j hj)⟩
 | none =>
  refine .inr (placeI_miss L nm (fun j hj => ?_))
  exact List.findIdx?_eq_none_iff.1 h _ (List.getElem_mem hj)
set_option maxRecDepth 100000 in
theorem place1_any (n v nm : ByteArray) (b8 : Nat) (w : World) (hb : w.cell? ⟨b8, 0, none⟩ = some (.string nm)) (hl : b8 < w.heap.size) :
  Calls Tryd.prog 107 #[.agg #[.string n, .string v], .pointer (some ⟨b8, 0, none⟩)] w fun e w' => e = .returned (.bool (isN (bl nm) (n, v))) ∧ Ext w w' := by
 have hn : isN (bl nm) (n, v) = (n.toList == nm.toList) := by unfold isN bl; rw [toL, toL]
 have HN := hide hn
 clear hn
 go_enter Tryd.func107, Tryd.ntmps107
 go_wp2
 go_ret
 exact ⟨ret_bool HN.out.symm, (Below.refl _ w).alloc (Nat.le_refl _) _⟩
set_option maxRecDepth 100000 in
set_option maxHeartbeats 2000000 in
theorem hidx_any (L : List HeadD) (nm : ByteArray) (v : Value) (b8 : Nat) (w : World) (hs : Heads w v L) (hb : w.cell? ⟨b8, 0, none⟩ = some (.string nm)) :
  Calls Tryd.prog 106 #[v, .func (.func 107) #[] #[.pointer (some ⟨b8, 0, none⟩)]] w fun e w' => e = .returned (.int .i64 (placeI L (bl nm))) ∧ Ext w w' := by
 obtain ⟨_, a, cap, rfl⟩ := hs.shape
 have HS := hide hs
 have hlz := hs.shape.1
 have hb8 : b8 < w.heap.size := World.block_lt_of_cell? w _ hb
 have hcl : ∀ (X : World) (h : HeadD), Ext w X → Calls Tryd.prog 107 #[.agg #[.string h.1, .string h.2], .pointer (some ⟨b8, 0, none⟩)] X fun e w' => e = .returned (.bool (isN (bl nm) h)) ∧ Ext X w' := fun X h hX => place1_any h.1 h.2 nm b8 X ((hX.cell (p := ⟨b8, 0, none⟩) hb8).trans hb) (Nat.lt_of_lt_of_le hb8 hX.size)
 have HCL := hide hcl
 have eg : ∀ args w, (callFunc 107 args).run Tryd.prog w = .ok (.enter 107 args) w := enters_of Tryd.func107 (by kernel_rfl) rfl
 clear hs hcl hb hb8
 go_enter Tryd.func106, Tryd.ntmps106
 go_wp2_with fail
 go_loopw [8] (fun i wr => ∃ k : Nat, ∃ hk : k ≤ L.length, i = .int .i64 k ∧ (∀ j (hj : j < k), isN (bl nm) (L[j]'(by omega)) = false) ∧ Ext w wr) (fun i _ => L.length - (intOf i).toNat)
 case atStart => exact ⟨0, by omega, rfl, fun j hj => by omega, Below.refl _ _⟩
 case round =>
  obtain ⟨k, hk, rfl, hno, hext⟩ := hrel
  by_cases hlt : k < L.length
  ·obtain ⟨b, off, rfl, hbb, hc1, hc2⟩ := heads_at (HS.out.ext hext) k hlt
   have hhit := placeI_hit L (bl nm) k hlt
   have hcl := HCL.out wr L[k] hext
   have hnx : isN (bl nm) L[k] = false → ∀ j (hj : j < k + 1), isN (bl nm) (L[j]'(by omega)) = false := fun h j hj => by
    by_cases e : j = k
    ·subst e; exact h
    ·exact hno j (by omega)
   obtain ⟨⟨x1, x2⟩, hx⟩ : ∃ x, L[k] = x := ⟨_, rfl⟩
   simp only [hx] at hc1 hc2 hhit hcl hnx
   obtain ⟨t, ht⟩ : ∃ t, isN (bl nm) (x1, x2) = t := ⟨_, rfl⟩
   simp only [ht] at hhit hcl hnx
   have HHIT := hide hhit
   have HNX := hide hnx
   have HC := hide hcl
   have HNO := hide hno
   clear hhit hnx hcl hx ht hno
   go_wp2_with fail
   refine HC.out.mono ?_
   rintro e w7 ⟨rfl, E7⟩
   cases t with
   | true =>
    have h1 := (HHIT.out rfl HNO.out).1
    have H1 := hide h1
    clear h1
    go_wp2
    go_ret
    exact ⟨ret_int H1.out.symm, hext.trans E7⟩
   | false =>
    go_wp2
    go_roundw
    case rel => exact ⟨k + 1, hlt, by go_num, HNX.out (by first | rfl | trivial), hext.trans E7⟩
    case measure => simp [intOf]; omega
  ·obtain rfl : k = L.length := by omega
   have h1 := (placeI_miss L (bl nm) hno).1
   have H1 := hide h1
   clear h1 hno
   go_wp2
   go_ret
   exact ⟨ret_int H1.out.symm, hext⟩
set_option maxRecDepth 100000 in
theorem place_any (L : List HeadD) (nm : ByteArray) (v : Value) (w : World) (hs : Heads w v L) :
  Calls Tryd.prog 82 #[v, .string nm] w fun e w' => e = .returned (.int .i64 (placeI L (bl nm))) ∧ Ext w w' := by
 have e0 : Ext w (w.alloc (.cells #[.string nm] 9)) := (Below.refl _ w).alloc (Nat.le_refl _) _
 have hi := hidx_any L nm v w.heap.size (w.alloc (.cells #[.string nm] 9)) (hs.ext e0) (by go_simp)
 obtain ⟨_, a, cap, rfl⟩ := hs.shape
 have HI := hide hi
 have HE := hide e0
 clear hi hs e0
 go_enter Tryd.func82, Tryd.ntmps82
 go_wp2_with fail
 refine HI.out.mono ?_
 rintro e w1 ⟨rfl, E1⟩
 go_wp2
 go_ret
 exact ⟨rfl, HE.out.trans E1⟩
set_option maxRecDepth 100000 in
theorem hget_any (L : List HeadD) (nm : ByteArray) (v : Value) (w : World) (hs : Heads w v L) :
  Calls Tryd.prog 51 #[v, .string nm] w fun e w' => e = .returned (.tuple #[.string ((getH L (bl nm)).getD ⟨#[]⟩), .bool (getH L (bl nm)).isSome]) ∧ Ext w w' := by
 have hp := place_any L nm v w hs
 obtain ⟨_, a, cap, rfl⟩ := hs.shape
 have HS := hide hs
 have hlz := hs.shape.1
 rcases placeI_cases L (bl nm) with ⟨k, hk, h1, h2⟩ | ⟨h1, h2⟩
 ·rw [h1] at hp
  have HP := hide hp
  have H2 := hide h2
  have hkz : (k : Int) < L.length := by omega
  clear hp hs h1 h2
  go_enter Tryd.func51, Tryd.ntmps51
  go_wp2_with fail
  refine HP.out.mono ?_
  rintro e w1 ⟨rfl, E1⟩
  obtain ⟨b, off, rfl, hbb, hc1, hc2⟩ := heads_at (HS.out.ext E1) k hk
  obtain ⟨x, hx⟩ : ∃ x, L[k].2 = x := ⟨_, rfl⟩
  rw [hx] at hc2
  have HX := hide hx
  clear hx hc1
  go_wp2
  go_ret2
  exact ⟨by rw [H2.out, HX.out]; rfl, E1⟩
 ·rw [h1] at hp
  have HP := hide hp
  have H2 := hide h2
  clear hp hs h1 h2
  go_enter Tryd.func51, Tryd.ntmps51
  go_wp2_with fail
  refine HP.out.mono ?_
  rintro e w1 ⟨rfl, E1⟩
  go_wp2
  go_ret2
  exact ⟨by rw [H2.out]; rfl, E1⟩
set_option maxRecDepth 100000 in
set_option maxHeartbeats 2000000 in
theorem rget_any (L : List HeadD) (nm : ByteArray) (v : Value) (w : World) (hs : Heads w v L) :
  Calls Tryd.prog 81 #[v, .string nm] w fun e w' => e = .returned (.tuple #[.string ((getH L (bl nm)).getD ⟨#[]⟩), .bool (getH L (bl nm)).isSome]) ∧ w = w' := by
 obtain ⟨_, a, cap, rfl⟩ := hs.shape
 have HS := hide hs
 have hlz := hs.shape.1
 clear hs
 go_enter Tryd.func81, Tryd.ntmps81
 go_wp2_with fail
 go_loop [6] (fun i => ∃ k : Nat, ∃ hk : k ≤ L.length, i = .int .i64 k ∧ (∀ j (hj : j < k), isN (bl nm) (L[j]'(by omega)) = false)) (fun i => L.length - (intOf i).toNat)
 case atStart => exact ⟨0, by omega, rfl, fun j hj => by omega⟩
 case round =>
  obtain ⟨k, hk, rfl, hno⟩ := hrel
  by_cases hlt : k < L.length
  ·obtain ⟨b, off, rfl, hbb, hc1, hc2⟩ := heads_at HS.out k hlt
   have hhit := placeI_hit L (bl nm) k hlt
   have hnx : isN (bl nm) L[k] = false → ∀ j (hj : j < k + 1), isN (bl nm) (L[j]'(by omega)) = false := fun h j hj => by
    by_cases e : j = k
    ·subst e; exact h
    ·exact hno j (by omega)
   have hq : isN (bl nm) L[k] = (L[k].1.toList == nm.toList) := by unfold isN bl; rw [toL, toL]
   obtain ⟨⟨x1, x2⟩, hx⟩ : ∃ x, L[k] = x := ⟨_, rfl⟩
   simp only [hx] at hc1 hc2 hhit hnx hq
   rw [hq] at hhit hnx
   obtain ⟨t, ht⟩ : ∃ t, (x1.toList == nm.toList) = t := ⟨_, rfl⟩
   simp only [ht] at hhit hnx
   have HHIT := hide hhit
   have HNX := hide hnx
   have HNO := hide hno
   clear hhit hnx hx hno hq
   cases t with
   | true =>
    have h1 := (HHIT.out rfl HNO.out).2
    have H1 := hide h1
    clear h1
    go_wp2
    go_ret2
    exact ⟨by rw [H1.out]; rfl, rfl⟩
   | false =>
    go_wp2
    go_round
    case rel => exact ⟨k + 1, hlt, by go_num, HNX.out rfl⟩
    case measure => simp [intOf]; omega
  ·obtain rfl : k = L.length := by omega
   have h1 := (placeI_miss L (bl nm) hno).2
   have H1 := hide h1
   clear h1 hno
   go_wp2
   go_ret2
   exact ⟨by rw [H1.out]; rfl, rfl⟩
end Go.Proofs.YtceaeiaoanhlnaaDoor

/- heads.Check, the reference's Check; match.Check, the reference's. -/
namespace Go.Proofs.YtceaeiaoanhlnaaDoor
open Go.ChangeShapes Go.WideShapes Go.ChangeAt Go.RowKit Go.Lib Go.Shelf
def hchkL : List HeadD → List HeadD → Int
 | _, [] => 0
 | seen, h :: t => if mayB (bl h.1) (bl h.2) = true then (if (getH seen (bl h.1)).isSome = true then 5 else hchkL (seen ++ [h]) t) else 11
/-- how heads are wrong -/
def hchk (L : List HeadD) : Int := if 8 < L.length then 2 else hchkL [] L
def hAt (L : List HeadD) (k : Nat) : Int := hchkL (L.take k) (L.drop k)
theorem hAt_zero (L : List HeadD) : hAt L 0 = hchkL [] L := by simp [hAt]
theorem hAt_end (L : List HeadD) : hAt L L.length = 0 := by simp [hAt, hchkL]
theorem hAt_step (L : List HeadD) (k : Nat) (hk : k < L.length) : hAt L k = if mayB (bl L[k].1) (bl L[k].2) = true then (if (getH (L.take k) (bl L[k].1)).isSome = true then 5 else hAt L (k + 1)) else 11 := by
 unfold hAt
 rw [List.drop_eq_getElem_cons hk, take_snoc L k hk]
 rfl
/-- all texts of heads are of a size that can be -/
def HSz (L : List HeadD) : Prop := ∀ h ∈ L, h.1.size ≤ 9223372036854775807 ∧ h.2.size ≤ 9223372036854775807
theorem place_some (L : List HeadD) (nm : List UInt8) : (getH L nm).isSome = decide (0 ≤ placeI L nm) ∧ -1 ≤ placeI L nm ∧ placeI L nm ≤ L.length := by
 rcases placeI_cases L nm with ⟨k, hk, h1, h2⟩ | ⟨h1, h2⟩
 ·rw [h1, h2]
  refine ⟨?_, by omega, by omega⟩
  symm; simp
 ·rw [h1, h2]
  exact ⟨rfl, by omega, by omega⟩
set_option maxRecDepth 100000 in
set_option maxHeartbeats 4000000 in
theorem hhchk_any (L : List HeadD) (v : Value) (w : World) (hs : Heads w v L) (hz : HSz L) :
  Calls Tryd.prog 99 #[v] w fun e w' => e = .returned (.int .i64 (hchk L)) ∧ Ext w w' := by
 obtain ⟨_, a, cap, rfl⟩ := hs.shape
 have HS := hide hs
 have HZ := hide hz
 have HCAP := hide hs.capb
 have hlz := hs.shape.1
 clear hs hz
 by_cases h8 : 8 < L.length
 ·have HB := hide (show hchk L = 2 from if_pos h8)
  have h8z : (8 : Int) < L.length := by omega
  go_enter Tryd.func99, Tryd.ntmps99
  go_wp2
  go_ret
  exact ⟨ret_int HB.out.symm, Below.refl _ _⟩
 ·have HB := hide (show hchk L = hchkL [] L from if_neg h8)
  have h8z : (L.length : Int) ≤ 8 := by omega
  clear h8
  go_enter Tryd.func99, Tryd.ntmps99
  go_wp2_with fail
  go_loopw [10] (fun i wr => ∃ k : Nat, k ≤ L.length ∧ i = .int .i64 k ∧ hAt L k = hchkL [] L ∧ Ext w wr) (fun i _ => L.length - (intOf i).toNat)
  case atStart => exact ⟨0, by omega, rfl, hAt_zero L, Below.refl _ _⟩
  case round =>
   obtain ⟨k, hk, rfl, hat, hext⟩ := hrel
   by_cases hlt : k < L.length
   ·obtain ⟨b, off, rfl, hbb, hc1, hc2⟩ := heads_at (HS.out.ext hext) k hlt
    have hpre : ∀ X, Ext wr X → Heads X (.slice (some ⟨b, off, none⟩) k cap) (L.take k) := fun X hX => ((HS.out.ext hext).take k (by omega)).ext hX
    have hstep := hAt_step L k hlt
    have hsz := HZ.out _ (List.getElem_mem hlt)
    have hps := place_some (L.take k)
    obtain ⟨⟨x1, x2⟩, hx⟩ : ∃ x, L[k] = x := ⟨_, rfl⟩
    simp only [hx] at hc1 hc2 hstep hsz
    rw [hat] at hstep
    have hmay := fun u => mayh_any x1 x2 u hsz.1 hsz.2
    have hpl : ∀ X, Ext wr X → Calls Tryd.prog 82 #[.slice (some ⟨b, off, none⟩) k cap, .string x1] X fun e w' => e = .returned (.int .i64 (placeI (L.take k) (bl x1))) ∧ Ext X w' := fun X hX =>
     place_any (L.take k) x1 (.slice (some ⟨b, off, none⟩) k cap) X (hpre X hX)
    obtain ⟨t, ht⟩ : ∃ t, mayB (bl x1) (bl x2) = t := ⟨_, rfl⟩
    obtain ⟨hp1, hp2, hp3⟩ := hps (bl x1)
    rw [hp1] at hstep
    obtain ⟨q, hq⟩ : ∃ q, placeI (L.take k) (bl x1) = q := ⟨_, rfl⟩
    simp only [ht, hq] at hmay hpl hstep
    have HMAY := hide hmay
    have HPL := hide hpl
    have HST := hide hstep
    have hkc : (k : Int) ≤ cap := by have := HCAP.out; omega
    have hkl : (k : Int) < L.length := by omega
    have hk0 : (0 : Int) ≤ k := by omega
    have e1 : Ext wr (wr.alloc (.cells #[.string x1, .string x2] 82)) := (Below.refl _ wr).alloc (Nat.le_refl _) _
    have hcx : ∀ X, Ext (wr.alloc (.cells #[.string x1, .string x2] 82)) X → X.cell? ⟨wr.heap.size, 0, none⟩ = some (.string x1) := fun X hX => (hX.cell (p := ⟨wr.heap.size, 0, none⟩) (by simp)).trans (by go_simp)
    have HCX := hide hcx
    have HE1 := hide e1
    clear hmay hpl hstep hcx ht hq hx hsz hat hpre hps hp1 hp2 hp3 e1
    go_wp2_with fail
    refine (HMAY.out _).mono ?_
    rintro e w7 ⟨rfl, E7⟩
    cases t with
    | false =>
     have hr := HST.out
     rw [if_neg (by simp)] at hr
     have HR := hide hr
     clear hr hc1 hc2
     go_wp2
     go_ret
     exact ⟨ret_int (by rw [HB.out, HR.out]), hext.trans (HE1.out.trans E7)⟩
    | true =>
     have hr := HST.out
     rw [if_pos rfl] at hr
     have hc7 := HCX.out _ E7
     have E7d := hide (show Ext (wr.alloc (.cells #[.string x1, .string x2] 82)) w7.drew from Below.drew E7)
     clear hc1 hc2
     have HR := hide hr
     clear hr
     go_wp2_with fail
     go_region_held3 (fun w' => w'.cell? ⟨wr.heap.size, 0, none⟩ = some (.string x1))
      (first
       | exact HCX.out _ (E7d.out.trans E8)
       | exact HCX.out _ E7d.out)
      (first | (go_at_call 82; refine (HPL.out _ (HE1.out.trans E7d.out)).mono ?_; rintro e w8 ⟨rfl, E8⟩))
     by_cases hq0 : 0 ≤ q
     ·have hr := HR.out
      rw [if_pos (by simpa using hq0)] at hr
      have HR2 := hide hr
      clear hr
      go_wp2
      go_ret
      exact ⟨ret_int (by rw [HB.out, HR2.out]), hext.trans (HE1.out.trans (E7d.out.trans E8))⟩
     ·have hr := HR.out
      rw [if_neg (by simpa using hq0)] at hr
      have HR2 := hide hr
      clear hr
      go_wp2
      go_roundw
      case rel => exact ⟨k + 1, hlt, by go_num, HR2.out.symm, hext.trans (HE1.out.trans (E7d.out.trans E8))⟩
      case measure => simp [intOf]; omega
   ·obtain rfl : k = L.length := by omega
    rw [hAt_end] at hat
    have HR := hide hat
    clear hat
    go_wp2
    go_ret
    exact ⟨ret_int (by rw [HB.out]; exact HR.out), hext⟩
end Go.Proofs.YtceaeiaoanhlnaaDoor

/- match: begins, On, Fits, Check; the reference's Check. -/
namespace Go.Proofs
open Go.Shelf
def Tryd.lCut_ren : Go.Shelf.Ren := ⟨fun | 103 => 86 | 210 => 110 | 206 => 108 | n => n, fun | 9 => 9 | 4 => 4 | 24 => 108 | 3 => 3 | n => n, fun | n => n⟩
theorem Tryd.lCut : Go.Proofs.Lays.n103 Tryd.prog Tryd.lCut_ren := {
  mixed := by kernel_rfl
  f103 := Tryd.func86.trans (congrArg some (by kernel_rfl))
  f206 := Tryd.func108.trans (congrArg some (by kernel_rfl))
  f210 := Tryd.func110.trans (congrArg some (by kernel_rfl))
  t3 := Tryd.underlying3
  a3 := Tryd.isAgg3
  z3 := Tryd.sizeOf3
  v3 := Tryd.zeroValue3
  t4 := Tryd.underlying4
  a4 := Tryd.isAgg4
  z4 := Tryd.sizeOf4
  v4 := Tryd.zeroValue4
  t9 := Tryd.underlying9
  a9 := Tryd.isAgg9
  z9 := Tryd.sizeOf9
  v9 := Tryd.zeroValue9
  t24 := Tryd.underlying108
  a24 := Tryd.isAgg108
  z24 := Tryd.sizeOf108
  v24 := Tryd.zeroValue108 }
end Go.Proofs
namespace Go.Proofs.YtceaeiaoanhlnaaDoor
open Go.ChangeShapes Go.WideShapes Go.ChangeAt Go.RowKit Go.Lib Go.Shelf
/-- does a path begin with another one? -/
def beginsB (p q : List UInt8) : Bool := q == [47] || (Lib.hasPrefix p q && ((Lib.trimPrefix p q).isEmpty || (Lib.trimPrefix p q).head? == some 47))
def onB (mp : List UInt8) (ex : Bool) (p : List UInt8) : Bool := isPath p && (if ex then mp == p else beginsB p mp)
set_option maxRecDepth 100000 in
set_option maxHeartbeats 1000000 in
theorem begins_any (p q : ByteArray) (w : World) : Calls Tryd.prog 54 #[.string p, .string q] w fun e w' => e = .returned (.bool (beginsB (bl p) (bl q))) ∧ w = w' := by
 by_cases hq : bl q = [47]
 ·have hb : (q.toList == [47]) = true := by rw [toL]; show (bl q == [47]) = true; simpa using hq
  have HB := hide (show beginsB (bl p) (bl q) = true by unfold beginsB; rw [hq]; rfl)
  clear hq
  go_enter Tryd.func54, Tryd.ntmps54
  go_wp2
  go_ret
  exact ⟨ret_bool HB.out.symm, rfl⟩
 ·have hb : (q.toList == [47]) = false := by rw [toL]; show (bl q == [47]) = false; simpa using hq
  have hcut : ∀ u : World, Calls Tryd.prog 86 #[.string p, .string q] u fun e w' => e = .returned (.tuple #[.string ⟨(Lib.trimPrefix p.data.toList q.data.toList).toArray⟩, .bool (Lib.hasPrefix p.data.toList q.data.toList)]) ∧ u = w' := fun u => (Any.strings_CutPrefix Tryd.lCut p q u).mono (fun _ _ h => ⟨h.1, h.2.symm⟩)
  have hv : beginsB (bl p) (bl q) = (Lib.hasPrefix p.data.toList q.data.toList && ((Lib.trimPrefix p.data.toList q.data.toList).isEmpty || (Lib.trimPrefix p.data.toList q.data.toList).head? == some 47)) := by
   unfold beginsB
   have : (bl q == [47]) = false := by simpa using hq
   rw [this]; rfl
  obtain ⟨T, hT⟩ : ∃ T : ByteArray, (⟨(Lib.trimPrefix p.data.toList q.data.toList).toArray⟩ : ByteArray) = T := ⟨_, rfl⟩
  have hTl : Lib.trimPrefix p.data.toList q.data.toList = T.data.toList := by rw [← hT]
  obtain ⟨t, ht⟩ : ∃ t, Lib.hasPrefix p.data.toList q.data.toList = t := ⟨_, rfl⟩
  rw [hTl, ht] at hv
  simp only [hT, ht] at hcut
  have HCUT := hide hcut
  have HV := hide hv
  clear hcut hv hT hTl ht hq
  go_enter Tryd.func54, Tryd.ntmps54
  go_wp2_with fail
  refine (HCUT.out _).mono ?_
  rintro e w' ⟨rfl, rfl⟩
  cases t with
  | false =>
   go_wp2
   go_ret
   exact ⟨ret_bool (by rw [HV.out]; rfl), rfl⟩
  | true =>
   by_cases he : T.data.toList = []
   ·have h1 : T.toList.isEmpty = true := by rw [toL, he]; rfl
    have h2 : (T.toList == []) = true := by rw [toL, he]; rfl
    have HE := hide he
    clear he
    go_wp2
    go_ret
    exact ⟨ret_bool (by rw [HV.out, HE.out]; rfl), rfl⟩
   ·have h1 : T.toList.isEmpty = false := by rw [toL]; simpa using he
    have h2 : (T.toList == []) = false := by rw [toL]; simpa using he
    have h0 : 0 < T.size := by rw [Lib.size_eq]; exact List.length_pos_iff.2 he
    have hg := data_getElem? T 0 h0
    have hh : (T.data.toList.head? == some 47) = (((T[0]'h0).toNat : Int) == 47) := by
     rw [List.head?_eq_getElem?, hg, Bool.eq_iff_iff]
     simp only [beq_iff_eq, Option.some.injEq]
     constructor
     ·intro e; rw [e]; rfl
     ·intro e
      refine UInt8.toNat_inj.1 ?_
      rw [show (47 : UInt8).toNat = 47 from rfl]; omega
    have HH := hide hh
    have HE := hide (show T.data.toList.isEmpty = false by simpa using he)
    clear hh hg he
    go_wp2
    go_ret
    exact ⟨ret_bool (by rw [HV.out, HE.out, HH.out]; rfl), rfl⟩
set_option maxRecDepth 100000 in
set_option maxHeartbeats 1000000 in
theorem on_any (mp p : ByteArray) (ex : Bool) (hv : Value) (w : World) (hs : p.size ≤ 9223372036854775807) (hm : MaxV w) (hsl : ∃ a n c, hv = .slice a n c) :
  Calls Tryd.prog 30 #[.agg #[.string mp, .bool ex, hv], .string p] w fun e w' => e = .returned (.bool (onB (bl mp) ex (bl p))) ∧ Ext w w' := by
 obtain ⟨a, n, c, rfl⟩ := hsl
 have e0 : Ext w (w.alloc (.cells #[.string mp, .bool ex, .slice a n c] 33)) := (Below.refl _ w).alloc (Nat.le_refl _) _
 have hpath := mpath_any p _ hs (hm.ext e0)
 have hcx : ∀ X, Ext (w.alloc (.cells #[.string mp, .bool ex, .slice a n c] 33)) X → X.cell? ⟨w.heap.size, 0, none⟩ = some (.string mp) ∧ X.cell? ⟨w.heap.size, 1, none⟩ = some (.bool ex) := fun X hX => ⟨(hX.cell (p := ⟨w.heap.size, 0, none⟩) (by simp)).trans (by go_simp), (hX.cell (p := ⟨w.heap.size, 1, none⟩) (by simp)).trans (by go_simp)⟩
 have HCX := hide hcx
 have HE0 := hide e0
 obtain ⟨t, ht⟩ : ∃ t, isPath p.data.toList = t := ⟨_, rfl⟩
 have hon : onB (bl mp) ex (bl p) = (t && (if ex then bl mp == bl p else beginsB (bl p) (bl mp))) := by unfold onB; rw [← ht]; rfl
 rw [ht] at hpath
 have HP := hide hpath
 have HON := hide hon
 clear hpath hcx e0 ht hon hm
 go_enter Tryd.func30, Tryd.ntmps30
 go_wp2_with fail
 refine HP.out.mono ?_
 rintro e w1 ⟨rfl, E1⟩
 obtain ⟨c0, c1⟩ := HCX.out _ E1
 cases t with
 | false =>
  go_wp2
  go_ret
  exact ⟨ret_bool (by rw [HON.out]; rfl), HE0.out.trans E1⟩
 | true =>
  cases ex with
  | true =>
   go_wp2
   go_ret
   refine ⟨ret_bool ?_, HE0.out.trans E1⟩
   rw [HON.out]
   show (mp.toList == p.toList) = (bl mp == bl p)
   rw [toL, toL]; rfl
  | false =>
   go_wp2_with fail
   refine (begins_any p mp _).mono ?_
   rintro e w2 ⟨rfl, rfl⟩
   go_wp2
   go_ret
   exact ⟨ret_bool (by rw [HON.out]; rfl), HE0.out.trans E1⟩
/-- how a match is wrong -/
def mchk (p : List UInt8) (L : List HeadD) : Int := if isPath p = true then hchk L else 10
set_option maxRecDepth 100000 in
set_option maxHeartbeats 1000000 in
theorem mchk_any (mp : ByteArray) (ex : Bool) (L : List HeadD) (hv : Value) (w : World) (hs : mp.size ≤ 9223372036854775807) (hm : MaxV w) (hh : Heads w hv L) (hz : HSz L) :
  Calls Tryd.prog 72 #[.agg #[.string mp, .bool ex, hv]] w fun e w' => e = .returned (.int .i64 (mchk (bl mp) L)) ∧ Ext w w' := by
 obtain ⟨_, a, c, rfl⟩ := hh.shape
 have e0 : Ext w (w.alloc (.cells #[.string mp, .bool ex, .slice a L.length c] 33)) := (Below.refl _ w).alloc (Nat.le_refl _) _
 have hpath := mpath_any mp _ hs (hm.ext e0)
 have hcx : ∀ X, Ext (w.alloc (.cells #[.string mp, .bool ex, .slice a L.length c] 33)) X → X.cell? ⟨w.heap.size, 2, none⟩ = some (.slice a L.length c) := fun X hX => (hX.cell (p := ⟨w.heap.size, 2, none⟩) (by simp)).trans (by go_simp)
 have HCX := hide hcx
 have HE0 := hide e0
 have HH := hide hh
 have HZ := hide hz
 obtain ⟨t, ht⟩ : ∃ t, isPath mp.data.toList = t := ⟨_, rfl⟩
 have hon : mchk (bl mp) L = if t = true then hchk L else 10 := by unfold mchk; rw [← ht]; rfl
 rw [ht] at hpath
 have HP := hide hpath
 have HON := hide hon
 clear hpath hcx e0 ht hon hm hh hz
 go_enter Tryd.func72, Tryd.ntmps72
 go_wp2_with fail
 refine HP.out.mono ?_
 rintro e w1 ⟨rfl, E1⟩
 have c2 := HCX.out _ E1
 cases t with
 | false =>
  go_wp2
  go_ret
  exact ⟨ret_int (by rw [HON.out]; rfl), HE0.out.trans E1⟩
 | true =>
  go_wp2_with fail
  refine (hhchk_any L _ _ ((HH.out.ext HE0.out).ext E1) HZ.out).mono ?_
  rintro e w2 ⟨rfl, E2⟩
  go_wp2
  go_ret
  exact ⟨ret_int (by rw [HON.out]; rfl), HE0.out.trans (E1.trans E2)⟩
end Go.Proofs.YtceaeiaoanhlnaaDoor

/- match.Fits. -/
namespace Go.Proofs.YtceaeiaoanhlnaaDoor
open Go.ChangeShapes Go.WideShapes Go.ChangeAt Go.RowKit Go.Lib Go.Shelf
/-- is what a head asks told by heads? -/
def askB (H : List HeadD) (h : HeadD) : Bool := match getH H (bl h.1) with
 | some v => bl h.2 == [] || bl h.2 == bl v
 | none => false
def fitsB (mp : List UInt8) (ex : Bool) (L : List HeadD) (p : List UInt8) (H : List HeadD) : Bool := onB mp ex p && L.all (askB H)
set_option maxRecDepth 100000 in
set_option maxHeartbeats 4000000 in
theorem fits_any (mp p : ByteArray) (ex : Bool) (L H : List HeadD) (hv l : Value) (w : World) (hs : p.size ≤ 9223372036854775807) (hm : MaxV w) (hh : Heads w hv L) (hl : Heads w l H) :
  Calls Tryd.prog 27 #[.agg #[.string mp, .bool ex, hv], .string p, l] w fun e w' => e = .returned (.bool (fitsB (bl mp) ex L (bl p) H)) ∧ Ext w w' := by
 obtain ⟨_, a, c, rfl⟩ := hh.shape
 obtain ⟨_, a2, c2, rfl⟩ := hl.shape
 have e0 : Ext w (w.alloc (.cells #[.string mp, .bool ex, .slice a L.length c] 33)) := (Below.refl _ w).alloc (Nat.le_refl _) _
 have hon := on_any mp p ex (.slice a L.length c) _ hs (hm.ext e0) ⟨a, L.length, c, rfl⟩
 have hcx : ∀ X, Ext (w.alloc (.cells #[.string mp, .bool ex, .slice a L.length c] 33)) X → X.cell? ⟨w.heap.size, 2, none⟩ = some (.slice a L.length c) := fun X hX => (hX.cell (p := ⟨w.heap.size, 2, none⟩) (by simp)).trans (by go_simp)
 have HCX := hide hcx
 have HE0 := hide e0
 have HH := hide (hh.ext e0)
 have HL := hide (hl.ext e0)
 have hlz := hh.shape.1
 obtain ⟨t, ht⟩ : ∃ t, onB (bl mp) ex (bl p) = t := ⟨_, rfl⟩
 have hf : fitsB (bl mp) ex L (bl p) H = (t && L.all (askB H)) := by unfold fitsB; rw [ht]
 rw [ht] at hon
 have HON := hide hon
 have HF := hide hf
 clear hon hcx e0 ht hf hm hh hl
 go_enter Tryd.func27, Tryd.ntmps27
 go_wp2_with fail
 refine HON.out.mono ?_
 rintro e w1 ⟨rfl, E1⟩
 have cc := HCX.out _ E1
 cases t with
 | false =>
  go_wp2
  go_ret
  exact ⟨ret_bool (by rw [HF.out]; rfl), HE0.out.trans E1⟩
 | true =>
  go_wp2_with fail
  go_loopw [18] (fun i wr => ∃ k : Nat, k ≤ L.length ∧ i = .int .i64 k ∧ (L.take k).all (askB H) = true ∧ Ext w1 wr) (fun i _ => L.length - (intOf i).toNat)
  case atStart => exact ⟨0, by omega, rfl, by simp, Below.refl _ _⟩
  case round =>
   obtain ⟨k, hk, rfl, hok, hext⟩ := hrel
   by_cases hlt : k < L.length
   ·obtain ⟨b, off, rfl, hbb, hc1, hc2⟩ := heads_at (HH.out.ext (E1.trans hext)) k hlt
    have hsn : (L.take (k + 1)).all (askB H) = askB H L[k] := by rw [take_snoc L k hlt, List.all_append, hok]; simp
    have hbd : askB H L[k] = false → L.all (askB H) = false := fun h => by
     rw [List.all_eq_false]; exact ⟨L[k], List.getElem_mem hlt, by rw [h]; simp⟩
    obtain ⟨⟨x1, x2⟩, hx⟩ : ∃ x, L[k] = x := ⟨_, rfl⟩
    simp only [hx] at hc1 hc2
    rw [hx] at hsn hbd
    have hget := fun X (hX : Ext w1 X) => hget_any H x1 (.slice a2 H.length c2) X (HL.out.ext (E1.trans hX))
    have hask : askB H (x1, x2) = match getH H (bl x1) with
     | some v => bl x2 == [] || bl x2 == bl v
     | none => false := rfl
    have hsz := hext.size
    have e8 : Ext wr (wr.alloc (.cells #[.string x1, .string x2] 82)) := (Below.refl _ wr).alloc (Nat.le_refl _) _
    have hcy : ∀ X, Ext (wr.alloc (.cells #[.string x1, .string x2] 82)) X → X.cell? ⟨wr.heap.size, 1, none⟩ = some (.string x2) := fun X hX => (hX.cell (p := ⟨wr.heap.size, 1, none⟩) (by simp)).trans (by go_simp)
    have HCY := hide hcy
    have HE8 := hide e8
    have HSN := hide hsn
    have HBD := hide hbd
    have HGET := hide hget
    have HASK := hide hask
    clear hcy e8 hsn hbd hget hask hx hok
    go_wp2_with fail
    refine (HGET.out _ (hext.trans HE8.out)).mono ?_
    rintro e w7 ⟨rfl, E7⟩
    have cy := HCY.out _ E7
    cases hg : getH H (bl x1) with
    | none =>
     have ha : askB H (x1, x2) = false := by
      have h := HASK.out
      rw [hg] at h
      exact h
     have HB := hide (HBD.out ha)
     have HG := hide hg
     clear ha hg
     simp only [Option.getD_none, Option.isSome_none]
     go_wp2
     go_ret
     exact ⟨ret_bool (by rw [HF.out, HB.out]; rfl), HE0.out.trans (E1.trans (hext.trans (HE8.out.trans E7)))⟩
    | some v =>
     have ha : askB H (x1, x2) = (bl x2 == [] || bl x2 == bl v) := by
      have h := HASK.out
      rw [hg] at h
      exact h
     simp only [Option.getD_some, Option.isSome_some]
     have HG := hide hg
     clear hg
     by_cases he : bl x2 = []
     ·have h1 : x2.toList.isEmpty = true := by rw [toL]; show (bl x2).isEmpty = true; rw [he]; rfl
      have h2 : (x2.toList == []) = true := by rw [toL]; show (bl x2 == []) = true; rw [he]; rfl
      have hs1 := HSN.out
      rw [ha, he] at hs1
      have HS1 := hide hs1
      clear ha he hs1
      go_wp2
      go_roundw
      case rel => exact ⟨k + 1, hlt, by go_num, by rw [HS1.out]; rfl, hext.trans (HE8.out.trans E7)⟩
      case measure => simp [intOf]; omega
     ·have h1 : x2.toList.isEmpty = false := by rw [toL]; show (bl x2).isEmpty = false; simpa using he
      have h2 : (x2.toList == []) = false := by rw [toL]; show (bl x2 == []) = false; simpa using he
      have he' : (bl x2 == []) = false := by simpa using he
      rw [he'] at ha
      by_cases heq : bl x2 = bl v
      ·have h3 : (x2.toList == v.toList) = true := by rw [toL, toL]; show (bl x2 == bl v) = true; simpa using heq
       have h4 : (x2.toList != v.toList) = false := by rw [toL, toL]; show (bl x2 != bl v) = false; simpa using heq
       have hs1 := HSN.out
       rw [ha, heq] at hs1
       have HS1 := hide hs1
       clear ha he he' heq hs1
       go_wp2
       go_roundw
       case rel => exact ⟨k + 1, hlt, by go_num, by rw [HS1.out]; simp, hext.trans (HE8.out.trans E7)⟩
       case measure => simp [intOf]; omega
      ·have h3 : (x2.toList == v.toList) = false := by rw [toL, toL]; show (bl x2 == bl v) = false; simpa using heq
       have h4 : (x2.toList != v.toList) = true := by rw [toL, toL]; show (bl x2 != bl v) = true; simpa using heq
       have h5 : (bl x2 == bl v) = false := by simpa using heq
       rw [h5] at ha
       have HB := hide (HBD.out ha)
       clear ha he he' heq h5
       go_wp2
       go_ret
       exact ⟨ret_bool (by rw [HF.out, HB.out]; rfl), HE0.out.trans (E1.trans (hext.trans (HE8.out.trans E7)))⟩
   ·obtain rfl : k = L.length := by omega
    rw [List.take_length] at hok
    have HOK := hide hok
    clear hok
    go_wp2
    go_ret
    exact ⟨ret_bool (by rw [HF.out, HOK.out]; rfl), HE0.out.trans (E1.trans hext)⟩
end Go.Proofs.YtceaeiaoanhlnaaDoor
