/- Merged texts (Zq, CardK). -/
import Derived.Test.YtmpciohmljpncaaGreatDoorZa
import Derived.Shelf.Strings.Split
import Derived.Shelf.Strings.Prefix
import Derived.Shelf.Small.Wraps
import Derived.Shelf.GgClosure.StringsIndexFuncTop
import Derived.Ground.NamesProg
import Derived.Ground.GgwProg
import Derived.HandedShaped
import Derived.Handed
import Derived.Shelf.Vars
/- Merged texts (PathA, PathB, PathC). -/
namespace Go.Proofs.YtmpciohmljpncaaGreatDoor
open Go.ChangeShapes Go.WideShapes Go.ChangeAt Go.RowKit Go.Lib
set_option maxRecDepth 100000 in
theorem wrong_any (n : Nat) (w : World) : Calls Tryz.prog 222 #[.int .i32 n] w fun e w' => e = .returned (.bool (wrongN n)) ∧ w = w' := by
 go_enter Tryz.func222, Tryz.ntmps222
 go_wp2
 all_goals
  go_ret
  refine ⟨ret_bool ?_, rfl⟩
  rw [Bool.eq_iff_iff]
  simp [wrongN, sgnN]
  omega
/-! where a path is one -/
theorem toL (s : ByteArray) : s.toList = s.data.toList := Lib.toList_data s
theorem path_root (s : ByteArray) (h : (s.toList == [47]) = true) : isPath s.data.toList = true := by
 rw [toL, beq_iff_eq] at h; rw [h]; rfl
theorem path_size (s : ByteArray) (h : (s.toList == [47]) = false) (h2 : ¬ (2 ≤ s.size ∧ s.size ≤ 60)) : isPath s.data.toList = false := by
 rw [toL] at h
 have hl := Lib.size_eq s
 unfold isPath
 rw [h]
 by_cases h3 : 2 ≤ s.data.toList.length
 ·have : ¬ s.data.toList.length ≤ 60 := by omega
  simp
  intros; omega
 ·simp
  intros; omega
theorem path_body (s : ByteArray) (h : (s.toList == [47]) = false) (h2 : 2 ≤ s.size) (h60 : s.size ≤ 60) (hc : (s[0]'(by omega)).toNat = 47) : isPath s.data.toList = (runP s.data.toList.tail == some true) := by
 rw [toL] at h
 have hl := Lib.size_eq s
 have hg := data_getElem? s 0 (by omega)
 unfold isPath
 rw [h]
 have h3 : (s.data.toList.head? == some 47) = true := by
  rw [List.head?_eq_getElem?, hg]
  simp
  exact UInt8.toNat_inj.1 hc
 have h4 : 2 ≤ s.data.toList.length := by omega
 have h5 : s.data.toList.length ≤ 60 := by omega
 rw [h3]; simp
 intro _; omega
end Go.Proofs.YtmpciohmljpncaaGreatDoor
namespace Go.Proofs.YtmpciohmljpncaaGreatDoor
open Go.ChangeShapes Go.WideShapes Go.ChangeAt Go.RowKit Go.Lib
theorem Tryz.infoS : (Tryz.prog.info? 9).map (fun i => (i.zero, i.size, i.bytes)) = some (some (.string ByteArray.empty), 1, 16) := by kernel_rfl
theorem info_partsS {P : Program} {t : TypeId} {z : Value} {s b : Nat} (h : (P.info? t).map (fun i => (i.zero, i.size, i.bytes)) = some (some z, s, b)) : ∃ i, P.info? t = some i ∧ i.zero = some z ∧ i.size = s ∧ i.bytes = b := by
 cases hi : P.info? t with
 | none => simp [hi] at h
 | some i =>
  simp [hi] at h
  exact ⟨i, rfl, h.1, h.2.1, h.2.2⟩
def encS (s : ByteArray) : List Value := [.string s]
theorem encS_len (s : ByteArray) : (encS s).length = 1 := rfl
abbrev Strs := Sl encS 1
theorem flat_encS (D : List ByteArray) : D.flatMap encS = D.map Value.string := by
 induction D with
 | nil => rfl
 | cons a D ih => simp [encS, ih]
def bl (s : ByteArray) : List UInt8 := s.data.toList
end Go.Proofs.YtmpciohmljpncaaGreatDoor
namespace Go.Proofs
open Go.Shelf
def Tryz.lSplit_ren : Go.Shelf.Ren := ⟨fun | 146 => 223 | 221 => 317 | 268 => 392 | 138 => 325 | 143 => 393 | 195 => 398 | 197 => 413 | 218 => 399 | 219 => 459 | 260 => 479 | 217 => 509 | 225 => 470 | 224 => 469 | 267 => 510 | 266 => 544 | 314 => 545 | n => n, fun | 9 => 9 | 31 => 33 | 3 => 3 | 4 => 4 | 0 => 0 | 105 => 608 | 21 => 21 | 5 => 5 | 46 => 173 | 119 => 682 | 139 => 685 | 138 => 684 | 146 => 704 | 51 => 416 | n => n, fun | 1 => 2 | 3 => 6 | 4 => 7 | n => n⟩
theorem Tryz.lSplit : Go.Proofs.Lays.n146 Tryz.prog Tryz.lSplit_ren := {
  mixed := by kernel_rfl
  f138 := Tryz.func325.trans (congrArg some (by kernel_rfl))
  f143 := Tryz.func393.trans (congrArg some (by kernel_rfl))
  f146 := Tryz.func223.trans (congrArg some (by kernel_rfl))
  f195 := Tryz.func398.trans (congrArg some (by kernel_rfl))
  f197 := Tryz.func413.trans (congrArg some (by kernel_rfl))
  f217 := Tryz.func509.trans (congrArg some (by kernel_rfl))
  f218 := Tryz.func399.trans (congrArg some (by kernel_rfl))
  f219 := Tryz.func459.trans (congrArg some (by kernel_rfl))
  f221 := Tryz.func317.trans (congrArg some (by kernel_rfl))
  f224 := Tryz.func469.trans (congrArg some (by kernel_rfl))
  f225 := Tryz.func470.trans (congrArg some (by kernel_rfl))
  f260 := Tryz.func479.trans (congrArg some (by kernel_rfl))
  f266 := Tryz.func544.trans (congrArg some (by kernel_rfl))
  f267 := Tryz.func510.trans (congrArg some (by kernel_rfl))
  f268 := Tryz.func392.trans (congrArg some (by kernel_rfl))
  f314 := Tryz.func545.trans (congrArg some (by kernel_rfl))
  t0 := Tryz.underlying0
  a0 := Tryz.isAgg0
  z0 := Tryz.sizeOf0
  v0 := Tryz.zeroValue0
  t3 := Tryz.underlying3
  a3 := Tryz.isAgg3
  z3 := Tryz.sizeOf3
  v3 := Tryz.zeroValue3
  t4 := Tryz.underlying4
  a4 := Tryz.isAgg4
  z4 := Tryz.sizeOf4
  v4 := Tryz.zeroValue4
  t5 := Tryz.underlying5
  a5 := Tryz.isAgg5
  z5 := Tryz.sizeOf5
  v5 := Tryz.zeroValue5
  t9 := Tryz.underlying9
  a9 := Tryz.isAgg9
  z9 := Tryz.sizeOf9
  v9 := Tryz.zeroValue9
  t21 := Tryz.underlying21
  a21 := Tryz.isAgg21
  z21 := Tryz.sizeOf21
  v21 := Tryz.zeroValue21
  t31 := Tryz.underlying33
  a31 := Tryz.isAgg33
  z31 := Tryz.sizeOf33
  v31 := Tryz.zeroValue33
  t46 := Tryz.underlying173
  a46 := Tryz.isAgg173
  z46 := Tryz.sizeOf173
  v46 := Tryz.zeroValue173
  t51 := Tryz.underlying416
  a51 := Tryz.isAgg416
  z51 := Tryz.sizeOf416
  v51 := Tryz.zeroValue416
  t105 := Tryz.underlying608
  a105 := Tryz.isAgg608
  z105 := Tryz.sizeOf608
  v105 := Tryz.zeroValue608
  t119 := Tryz.underlying682
  a119 := Tryz.isAgg682
  z119 := Tryz.sizeOf682
  t138 := Tryz.underlying684
  a138 := Tryz.isAgg684
  z138 := Tryz.sizeOf684
  v138 := Tryz.zeroValue684
  t139 := Tryz.underlying685
  a139 := Tryz.isAgg685
  z139 := Tryz.sizeOf685
  v139 := Tryz.zeroValue685
  t146 := Tryz.underlying704
  a146 := Tryz.isAgg704
  z146 := Tryz.sizeOf704
  v146 := Tryz.zeroValue704
  g1 := by kernel_rfl
  g3 := by kernel_rfl
  g4 := by kernel_rfl }
def Tryz.lContF_ren : Go.Shelf.Ren := ⟨fun | 17 => 224 | 15 => 318 | 20 => 394 | n => n, fun | 9 => 9 | 23 => 421 | 4 => 4 | 3 => 3 | 0 => 0 | 21 => 21 | n => n, fun | n => n⟩
theorem Tryz.lContF : Go.Proofs.LaysGw.n17 Tryz.prog Tryz.lContF_ren := {
  mixed := by kernel_rfl
  f15 := Tryz.func318.trans (congrArg some (by kernel_rfl))
  f17 := Tryz.func224.trans (congrArg some (by kernel_rfl))
  f20 := Tryz.func394.trans (congrArg some (by kernel_rfl))
  t0 := Tryz.underlying0
  a0 := Tryz.isAgg0
  z0 := Tryz.sizeOf0
  v0 := Tryz.zeroValue0
  i0 := by kernel_rfl
  t3 := Tryz.underlying3
  a3 := Tryz.isAgg3
  z3 := Tryz.sizeOf3
  v3 := Tryz.zeroValue3
  i3 := by kernel_rfl
  t4 := Tryz.underlying4
  a4 := Tryz.isAgg4
  z4 := Tryz.sizeOf4
  v4 := Tryz.zeroValue4
  i4 := by kernel_rfl
  t9 := Tryz.underlying9
  a9 := Tryz.isAgg9
  z9 := Tryz.sizeOf9
  v9 := Tryz.zeroValue9
  i9 := by kernel_rfl
  t21 := Tryz.underlying21
  a21 := Tryz.isAgg21
  z21 := Tryz.sizeOf21
  v21 := Tryz.zeroValue21
  i21 := by kernel_rfl
  t23 := Tryz.underlying421
  a23 := Tryz.isAgg421
  z23 := Tryz.sizeOf421
  v23 := Tryz.zeroValue421
  i23 := by kernel_rfl }
def Tryz.lPre_ren : Go.Shelf.Ren := ⟨fun | 99 => 221 | 206 => 316 | n => n, fun | 9 => 9 | 4 => 4 | 3 => 3 | n => n, fun | n => n⟩
theorem Tryz.lPre : Go.Proofs.Lays.n99 Tryz.prog Tryz.lPre_ren := {
  mixed := by kernel_rfl
  f99 := Tryz.func221.trans (congrArg some (by kernel_rfl))
  f206 := Tryz.func316.trans (congrArg some (by kernel_rfl))
  t3 := Tryz.underlying3
  a3 := Tryz.isAgg3
  z3 := Tryz.sizeOf3
  v3 := Tryz.zeroValue3
  t4 := Tryz.underlying4
  a4 := Tryz.isAgg4
  z4 := Tryz.sizeOf4
  v4 := Tryz.zeroValue4
  t9 := Tryz.underlying9
  a9 := Tryz.isAgg9
  z9 := Tryz.sizeOf9
  v9 := Tryz.zeroValue9 }
end Go.Proofs
namespace Go.Proofs.YtmpciohmljpncaaGreatDoor
open Go.ChangeShapes Go.WideShapes Go.ChangeAt Go.RowKit Go.Lib Go.Shelf
/-- the library's one variable that is read: some number -/
def MaxV (w : World) : Prop := ∃ m : Int, w.cell? ⟨2, 0, none⟩ = some (.int .i64 m)
theorem MaxV.ext {w w' : World} (h : MaxV w) (e : Ext w w') : MaxV w' := by
 obtain ⟨m, hm⟩ := h
 exact ⟨m, (e.cell (p := ⟨_, 0, none⟩) (World.block_lt_of_cell? w _ hm)).trans hm⟩
theorem strs_at {w : World} {a : Option Addr} {n cap : Nat} {xs : List ByteArray} (h : Strs w (.slice a n cap) xs) (i : Nat) (hi : i < xs.length) :
  ∃ b off, a = some ⟨b, off, none⟩ ∧ b < w.heap.size ∧ w.cell? ⟨b, off + i, none⟩ = some (.string xs[i]) := by
 obtain ⟨_, a', cap', hv, _, hc⟩ := h
 cases hv
 obtain ⟨b, off, ha, hb, hc⟩ := hc i xs[i] (List.getElem?_eq_getElem hi)
 exact ⟨b, off, ha, hb, by simpa using hc 0 _ rfl⟩
theorem strs_new (w : World) (xs : List ByteArray) (t : TypeId) (hl : xs.length ≤ 9223372036854775807) : Strs (w.alloc (.cells (xs.map Value.string).toArray t)) (.slice (some ⟨w.heap.size, 0, none⟩) xs.length xs.length) xs := by
 refine Sl.of_own (enc := encS) (size := 1) encS_len (base := 0) (e := t) ⟨by rw [flat_encS]; simp, .inr ⟨w.heap.size, xs.length, _, rfl, Nat.zero_le _, heap_alloc_new w _, Nat.le_refl _, by unfold maxLen; exact hl, by simp, by rw [flat_encS, Nat.mul_one]; exact List.take_of_length_le (by simp)⟩⟩ hl
theorem path_pre (s : ByteArray) (h : (s.toList == [47]) = false) (hp : Lib.hasPrefix s.data.toList [47] = true) : 2 ≤ s.size ∧ ∃ h0 : 0 < s.size, (s[0]'h0).toNat = 47 := by
 rw [toL] at h
 have hl := Lib.size_eq s
 unfold Lib.hasPrefix at hp
 cases hd : s.data.toList with
 | nil => rw [hd] at hp; simp at hp
 | cons c l =>
  rw [hd] at hp h hl
  have hc : c = 47 := by simpa using (by simpa using hp : (47 : UInt8) = c).symm
  have hne : l ≠ [] := fun e => by subst e; subst hc; simp at h
  have hlp := List.length_pos_iff.2 hne
  simp only [List.length_cons] at hl
  refine ⟨by omega, by omega, ?_⟩
  have hg := data_getElem? s 0 (by omega)
  rw [hd] at hg
  simp at hg
  rw [← hg, hc]; rfl
theorem path_nopre (s : ByteArray) (h : (s.toList == [47]) = false) (hp : Lib.hasPrefix s.data.toList [47] = false) : isPath s.data.toList = false := by
 rw [toL] at h
 unfold isPath
 rw [h]
 cases hd : s.data.toList with
 | nil => rfl
 | cons c l =>
  rw [hd] at hp
  have hc : c ≠ 47 := fun e => by subst e; simp [Lib.hasPrefix] at hp
  simp
  intro _ _ e
  exact absurd e hc
set_option maxRecDepth 100000 in
set_option maxHeartbeats 4000000 in
theorem mpath_any (s : ByteArray) (w : World) (hs : s.size ≤ 9223372036854775807) (hm : MaxV w) :
  Calls Tryz.prog 139 #[.string s] w fun e w' => e = .returned (.bool (isPath s.data.toList)) ∧ Ext w w' := by
 by_cases hr : (s.toList == [47]) = true
 ·have hp := hide (path_root s hr)
  go_enter Tryz.func139, Tryz.ntmps139
  go_wp2
  go_ret
  exact ⟨ret_bool hp.out.symm, Below.refl _ _⟩
 ·have hr : (s.toList == [47]) = false := by simpa using hr
  by_cases h60 : s.size ≤ 60
  ·have h60z : (s.size : Int) ≤ 60 := by omega
   have hpre : ∀ u : World, Calls Tryz.prog 221 #[.string s, .string ⟨#[47]⟩] u fun e w' => e = .returned (.bool (Lib.hasPrefix s.data.toList [47])) ∧ u = w' := fun u => (Any.strings_HasPrefix Tryz.lPre s ⟨#[47]⟩ u).mono (fun _ _ h => ⟨h.1, h.2.symm⟩)
   have hyes := path_pre s hr
   have hno := path_nopre s hr
   obtain ⟨t, ht⟩ : ∃ t, Lib.hasPrefix s.data.toList [47] = t := ⟨_, rfl⟩
   rw [ht] at hyes hno
   simp only [ht] at hpre
   have HPRE := hide hpre
   clear hpre ht
   cases t with
   | false =>
    have HB := hide (hno rfl)
    clear hno hyes
    go_enter Tryz.func139, Tryz.ntmps139
    go_wp2_with fail
    refine (HPRE.out _).mono ?_
    rintro e w' ⟨rfl, rfl⟩
    go_wp2
    go_ret
    exact ⟨ret_bool HB.out.symm, Below.refl _ _⟩
   | true =>
    obtain ⟨h2, h0, hc⟩ := hyes rfl
    have hbody := path_body s hr h2 h60 hc
    have h2z : (2 : Int) ≤ s.size := by omega
    clear hno hc
    have hT : (s.extract 1 s.size).data.toList = s.data.toList.tail := by rw [extract_to_end, List.drop_one]
    have hTs : (s.extract 1 s.size).size ≤ 60 := by
     have h1 := Lib.size_eq (s.extract 1 s.size)
     have h3 := Lib.size_eq s
     rw [hT, List.length_tail] at h1
     omega
    obtain ⟨m, hmm⟩ := hm
    have hspl : ∀ u : World, Ext w u → Calls Tryz.prog 223 #[.string (s.extract 1 s.size), .string ⟨#[47]⟩] u fun e w' => e = .returned (.slice (some ⟨u.heap.size, 0, none⟩) (Lib.countB (s.extract 1 s.size) ⟨#[47]⟩ + 1) (Lib.countB (s.extract 1 s.size) ⟨#[47]⟩ + 1)) ∧ w' = u.alloc (.cells ((Lib.splitB ⟨#[47]⟩ 0 (Lib.countB (s.extract 1 s.size) ⟨#[47]⟩) (s.extract 1 s.size)).map Value.string).toArray 9) := fun u hu =>
     Any.strings_Split Tryz.lSplit (by kernel_rfl) (s.extract 1 s.size) ⟨#[47]⟩ m u (by omega) ((hu.cell (p := ⟨_, 0, none⟩) (World.block_lt_of_cell? w _ hmm)).trans hmm) (by decide)
    have hlen := splitB_all ⟨#[47]⟩ (by decide) 0 _ (s.extract 1 s.size) rfl
    have hcle := countB_le ⟨#[47]⟩ (by decide) _ (s.extract 1 s.size) (Nat.le_refl _)
    have hdat := splitB_data ⟨#[47]⟩ 0 (Lib.countB (s.extract 1 s.size) ⟨#[47]⟩) (s.extract 1 s.size)
    have hrun := split_run (Lib.countB (s.extract 1 s.size) ⟨#[47]⟩) (s.extract 1 s.size).data.toList rfl
    have hall : ((Lib.splitB ⟨#[47]⟩ 0 (Lib.countB (s.extract 1 s.size) ⟨#[47]⟩) (s.extract 1 s.size)).all fun p => partB (bl p)) = isPath s.data.toList := by
     rw [hbody, ← hT, ← hrun]
     have : (⟨#[47]⟩ : ByteArray).data.toList = [47] := rfl
     rw [this] at hdat
     rw [← hdat, List.all_map]
     rfl
    obtain ⟨P, hP⟩ : ∃ P, Lib.splitB ⟨#[47]⟩ 0 (Lib.countB (s.extract 1 s.size) ⟨#[47]⟩) (s.extract 1 s.size) = P := ⟨_, rfl⟩
    obtain ⟨n, hn⟩ : ∃ n, Lib.countB (s.extract 1 s.size) ⟨#[47]⟩ = n := ⟨_, rfl⟩
    rw [hn] at hP hlen hcle
    simp only [hn, hP] at hspl
    rw [hn, hP] at hall
    rw [hP] at hlen
    have hn60 : n ≤ 60 := by omega
    have HSPL := hide hspl
    have HALL := hide hall
    have hnz : (n : Int) ≤ 60 := by omega
    have HLEN := hide hlen
    have hcf : ∀ (p : ByteArray) (u : World), Calls Tryz.prog 224 #[.string p, .func (.func 222) #[] #[]] u fun e w' => e = .returned (.bool (!(bl p).all sgn)) ∧ Ext u w' := fun p u => by
     have eg : ∀ args w, (callFunc 222 args).run Tryz.prog w = .ok (.enter 222 args) w := enters_of Tryz.func222 (by kernel_rfl) rfl
     have h := Any.strings_ContainsFunc Tryz.lContF 222 #[] eg wrongN p u (fun W x _ => ?_)
     ·rw [contains_wrong p] at h
      exact h
     ·exact (wrong_any x W).mono (fun _ _ h => ⟨h.1, 0, h.2.symm⟩)
    have HCF := hide hcf
    clear hbody hT hTs hmm hspl hlen hcle hdat hrun hall hP hn hcf hyes
    have h1 : (0 : Int) ≤ s.size - 1 := by omega
    go_enter Tryz.func139, Tryz.ntmps139
    go_wp2_with fail
    refine (HPRE.out _).mono ?_
    rintro e w' ⟨rfl, rfl⟩
    go_wp2_with fail
    refine (HSPL.out _ (Below.refl _ _)).mono ?_
    rintro e w1 ⟨rfl, hw1⟩
    have hst : Strs w1 (.slice (some ⟨w.heap.size, 0, none⟩) P.length P.length) P := by rw [hw1]; exact strs_new w P _ (by have := HLEN.out; omega)
    have he1 : Ext w w1 := by rw [hw1]; exact (Below.refl _ w).alloc (Nat.le_refl _) _
    have HST := hide hst
    have HE1 := hide he1
    clear hw1 hst he1
    go_wp2_with fail
    go_loopw [20] (fun i wr => ∃ k : Nat, k ≤ n + 1 ∧ i = .int .i64 k ∧ (P.take k).all (fun p => partB (bl p)) = true ∧ Ext w1 wr) (fun i _ => n + 1 - (intOf i).toNat)
    case atStart => exact ⟨0, by omega, rfl, by simp, Below.refl _ _⟩
    case round =>
     obtain ⟨k, hk, rfl, hok, hext⟩ := hrel
     by_cases hlt : k < n + 1
     ·have hkl : k < P.length := by have := HLEN.out; omega
      obtain ⟨b, off, eb, hbb, hc⟩ := strs_at (HST.out.ext hext) k hkl
      cases eb
      rw [Nat.zero_add] at hc
      have hsn : (P.take (k + 1)).all (fun p => partB (bl p)) = partB (bl P[k]) := by
       rw [take_snoc P k hkl, List.all_append, hok]; simp
      have hbd : partB (bl P[k]) = false → isPath s.data.toList = false := fun h => by
       rw [← HALL.out, List.all_eq_false]
       exact ⟨P[k], List.getElem_mem hkl, by rw [h]; simp⟩
      obtain ⟨p, hp⟩ : ∃ p, P[k] = p := ⟨_, rfl⟩
      rw [hp] at hc hsn hbd
      have hlz : (k : Int) < (n : Int) + 1 := by omega
      by_cases hpe : bl p = []
      ·have HB := hide (hbd (by rw [hpe]; rfl))
       have he1 : p.toList.isEmpty = true := by rw [toL]; show (bl p).isEmpty = true; rw [hpe]; rfl
       have he2 : (p.toList == []) = true := by rw [toL]; show (bl p == []) = true; rw [hpe]; rfl
       clear hpe hsn hbd hp hok
       go_wp2
       go_ret
       exact ⟨ret_bool HB.out.symm, HE1.out.trans hext⟩
      ·have he1 : p.toList.isEmpty = false := by rw [toL]; show (bl p).isEmpty = false; simpa using hpe
       have he2 : (p.toList == []) = false := by rw [toL]; show (bl p == []) = false; simpa using hpe
       have hpb : partB (bl p) = (bl p).all sgn := by unfold partB; simp [hpe]
       rw [hpb] at hsn hbd
       have hcf := HCF.out p
       obtain ⟨t, ht⟩ : ∃ t, (bl p).all sgn = t := ⟨_, rfl⟩
       rw [ht] at hsn hbd
       simp only [ht] at hcf
       have HSN := hide hsn
       have HBD := hide hbd
       have HCFP := hide hcf
       clear hpe hsn hbd hp hok hpb ht hcf
       go_wp2_with fail
       refine (HCFP.out _).mono ?_
       rintro e w7 ⟨rfl, E7⟩
       cases t with
       | true =>
        go_wp2
        go_roundw
        case rel => exact ⟨k + 1, hlt, by go_num, HSN.out, hext.trans E7⟩
        case measure => simp [intOf]; omega
       | false =>
        have HB := hide (HBD.out rfl)
        go_wp2
        go_ret
        exact ⟨ret_bool HB.out.symm, HE1.out.trans (hext.trans E7)⟩
     ·obtain rfl : k = n + 1 := by omega
      have hfin : isPath s.data.toList = true := by
       rw [← HALL.out]
       rw [List.take_of_length_le (by have := HLEN.out; omega)] at hok
       exact hok
      have HF := hide hfin
      have hlz : ¬ ((n : Int) + 1 < (n : Int) + 1) := by omega
      clear hok hfin
      go_wp2
      go_ret
      exact ⟨ret_bool HF.out.symm, HE1.out.trans hext⟩
  ·have HB := hide (path_size s hr (by omega))
   have h60z : (60 : Int) < s.size := by omega
   clear h60
   go_enter Tryz.func139, Tryz.ntmps139
   go_wp2
   go_ret
   exact ⟨ret_bool HB.out.symm, Below.refl _ _⟩
end Go.Proofs.YtmpciohmljpncaaGreatDoor
namespace Go.Proofs.YtmpciohmljpncaaGreatDoor
open Go
theorem handed_and_shaped {H : Type} {enc : TypeId × Value → H} {a : Assume} {C : Checked} {os : Os} {f : FuncId} {fn : Func} {s : ChangeSpec} {conds : List PathCond} {apart fresh handsOn again : Bool} {X : World → Array Value → Prop}
  (hX : ∀ (w w' : World) (args : Array Value), w.heap = w'.heap → X w args → X w' args)
  (own : ownKnob C.prog.godebug = none) (started : os.Started) (noInit : C.prog.inits.idxOf? f = none) (hfn : C.prog.funcs[f]? = some fn)
  (witness : ∃ (w : World) (tape : Tape) (i : Input), w.os = os ∧ (w.forCall tape i).Shaped C.prog ∧ i.vars = [] ∧ Input.okWide C.prog (w.forCall tape i) .any w.heap.size f i ∧
   ((s.pre enc C.prog fn conds apart (w.forCall tape i).memory i.args ∧ X (w.forCall tape i).memory i.args) ∧ sizedMet enc C.prog fn (OpenSpec.ofChange s) apart (w.forCall tape i).memory i.args) ∧ a.holds C.prog (lone (Frame.enter C.prog f i.args .normal) [] (w.forCall tape i)))
  (contract : ∀ (W : World) (base : Nat) (args : Array Value) (ds gs : List (DataW H)) (before : List MemPlace),
   (∀ (j : Nat) t v, fn.params[j]? = some t → args[j]? = some v → Value.okWide C.prog W .any base t v) →
   DataW.Whole enc C.prog fn.params.toList s.vars apart W args.toList ds gs before →
   X W args → W.ShapedOpen C.prog →
   Calls C.prog f args W fun e W' => ∃ v, e = .returned v ∧ s.post enc C.prog fn apart fresh handsOn again W args v W') :
  ReturnsInHanded a C os f .any (fun w args => (s.pre enc C.prog fn conds apart w args ∧ X w args) ∧ sizedMet enc C.prog fn (OpenSpec.ofChange s) apart w args) (s.post enc C.prog fn apart fresh handsOn again) := by
 refine returnsInHanded_of_calls own started noInit witness ?_
 intro w tape i _ hsh _ hok hpre _
 obtain ⟨_, _, _, fn', hfn', _, _, _, _, hval⟩ := hok
 obtain rfl : fn' = fn := Option.some.inj (hfn'.symm.trans hfn)
 obtain ⟨⟨⟨ds, gs, before, hw, _⟩, hx⟩, _⟩ := hpre
 refine (contract (w.forCall tape i) w.heap.size i.args ds gs before hval (DataW.Whole.of_heap (w' := w.forCall tape i) (by rfl) hw) (hX _ _ _ (by rfl) hx) hsh).mono fun e W' ⟨v, he, hp⟩ => ?_
 subst he
 exact ChangeSpec.post_blind hp
theorem maxV_of {W : World} (h : W.ShapedOpen Tryz.prog) : MaxV W :=
 cell_of_shapedOpen_int (P := Tryz.prog) (g := 2) (t := 3) (zero := #[.int .i64 0]) h (of_decide_eq_true (by kernel_rfl)) (by kernel_rfl) rfl (by kernel_rfl) (by kernel_rfl) Tryz.underlying3
end Go.Proofs.YtmpciohmljpncaaGreatDoor
