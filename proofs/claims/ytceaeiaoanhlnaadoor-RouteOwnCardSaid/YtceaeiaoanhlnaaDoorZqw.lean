/- Merged texts (PathA, PathB, PathC). -/
import Derived.Test.YtceaeiaoanhlnaaDoorZaw
import Derived.Shelf.Strings.Split
import Derived.Shelf.Strings.Prefix
import Derived.Shelf.Small.Wraps
import Derived.Shelf.GgClosure.StringsIndexFuncTop
import Derived.Ground.NamesProg
import Derived.Ground.GgwProg
namespace Go.Proofs.YtceaeiaoanhlnaaDoor
open Go.ChangeShapes Go.WideShapes Go.ChangeAt Go.RowKit Go.Lib
set_option maxRecDepth 100000 in
theorem wrong_any (n : Nat) (w : World) : Calls Tryd.prog 84 #[.int .i32 n] w fun e w' => e = .returned (.bool (wrongN n)) ∧ w = w' := by
 go_enter Tryd.func84, Tryd.ntmps84
 go_wp2
 all_goals
  go_ret
  refine ⟨ret_bool ?_, rfl⟩
  rw [Bool.eq_iff_iff]
  simp [wrongN, sgnN]
  omega
/-! where a path is one -/
theorem toL (s : ByteArray) : s.toList = s.data.toList := Lib.toList_data s
theorem path_root (s : ByteArray) (h : (s.toList == [47]) = true) : isPath s.data.toList = true := by
 rw [toL, beq_iff_eq] at h; rw [h]; rfl
theorem path_size (s : ByteArray) (h : (s.toList == [47]) = false) (h2 : ¬ (2 ≤ s.size ∧ s.size ≤ 60)) : isPath s.data.toList = false := by
 rw [toL] at h
 have hl := Lib.size_eq s
 unfold isPath
 rw [h]
 by_cases h3 : 2 ≤ s.data.toList.length
 ·have : ¬ s.data.toList.length ≤ 60 := by omega
  simp
  intros; omega
 ·simp
  intros; omega
theorem path_body (s : ByteArray) (h : (s.toList == [47]) = false) (h2 : 2 ≤ s.size) (h60 : s.size ≤ 60) (hc : (s[0]'(by omega)).toNat = 47) : isPath s.data.toList = (runP s.data.toList.tail == some true) := by
 rw [toL] at h
 have hl := Lib.size_eq s
 have hg := data_getElem? s 0 (by omega)
 unfold isPath
 rw [h]
 have h3 : (s.data.toList.head? == some 47) = true := by
  rw [List.head?_eq_getElem?, hg]
  simp
  exact UInt8.toNat_inj.1 hc
 have h4 : 2 ≤ s.data.toList.length := by omega
 have h5 : s.data.toList.length ≤ 60 := by omega
 rw [h3]; simp
 intro _; omega
end Go.Proofs.YtceaeiaoanhlnaaDoor
namespace Go.Proofs.YtceaeiaoanhlnaaDoor
open Go.ChangeShapes Go.WideShapes Go.ChangeAt Go.RowKit Go.Lib
theorem Tryd.infoS : (Tryd.prog.info? 9).map (fun i => (i.zero, i.size, i.bytes)) = some (some (.string ByteArray.empty), 1, 16) := by kernel_rfl
theorem info_partsS {P : Program} {t : TypeId} {z : Value} {s b : Nat} (h : (P.info? t).map (fun i => (i.zero, i.size, i.bytes)) = some (some z, s, b)) : ∃ i, P.info? t = some i ∧ i.zero = some z ∧ i.size = s ∧ i.bytes = b := by
 cases hi : P.info? t with
 | none => simp [hi] at h
 | some i =>
  simp [hi] at h
  exact ⟨i, rfl, h.1, h.2.1, h.2.2⟩
def encS (s : ByteArray) : List Value := [.string s]
theorem encS_len (s : ByteArray) : (encS s).length = 1 := rfl
abbrev Strs := Sl encS 1
theorem flat_encS (D : List ByteArray) : D.flatMap encS = D.map Value.string := by
 induction D with
 | nil => rfl
 | cons a D ih => simp [encS, ih]
def bl (s : ByteArray) : List UInt8 := s.data.toList
end Go.Proofs.YtceaeiaoanhlnaaDoor
namespace Go.Proofs
open Go.Shelf
def Tryd.lSplit_ren : Go.Shelf.Ren := ⟨fun | 146 => 55 | 221 => 87 | 268 => 111 | 138 => 104 | 143 => 112 | 195 => 127 | 197 => 130 | 218 => 128 | 219 => 131 | 260 => 138 | 217 => 139 | 225 => 140 | 224 => 141 | 267 => 142 | 266 => 144 | 314 => 145 | n => n, fun | 9 => 9 | 31 => 37 | 3 => 3 | 4 => 4 | 0 => 0 | 105 => 186 | 21 => 21 | 5 => 5 | 46 => 132 | 119 => 197 | 139 => 200 | 138 => 199 | 146 => 201 | 51 => 182 | n => n, fun | 1 => 2 | 3 => 3 | 4 => 4 | n => n⟩
theorem Tryd.lSplit : Go.Proofs.Lays.n146 Tryd.prog Tryd.lSplit_ren := {
  mixed := by kernel_rfl
  f138 := Tryd.func104.trans (congrArg some (by kernel_rfl))
  f143 := Tryd.func112.trans (congrArg some (by kernel_rfl))
  f146 := Tryd.func55.trans (congrArg some (by kernel_rfl))
  f195 := Tryd.func127.trans (congrArg some (by kernel_rfl))
  f197 := Tryd.func130.trans (congrArg some (by kernel_rfl))
  f217 := Tryd.func139.trans (congrArg some (by kernel_rfl))
  f218 := Tryd.func128.trans (congrArg some (by kernel_rfl))
  f219 := Tryd.func131.trans (congrArg some (by kernel_rfl))
  f221 := Tryd.func87.trans (congrArg some (by kernel_rfl))
  f224 := Tryd.func141.trans (congrArg some (by kernel_rfl))
  f225 := Tryd.func140.trans (congrArg some (by kernel_rfl))
  f260 := Tryd.func138.trans (congrArg some (by kernel_rfl))
  f266 := Tryd.func144.trans (congrArg some (by kernel_rfl))
  f267 := Tryd.func142.trans (congrArg some (by kernel_rfl))
  f268 := Tryd.func111.trans (congrArg some (by kernel_rfl))
  f314 := Tryd.func145.trans (congrArg some (by kernel_rfl))
  t0 := Tryd.underlying0
  a0 := Tryd.isAgg0
  z0 := Tryd.sizeOf0
  v0 := Tryd.zeroValue0
  t3 := Tryd.underlying3
  a3 := Tryd.isAgg3
  z3 := Tryd.sizeOf3
  v3 := Tryd.zeroValue3
  t4 := Tryd.underlying4
  a4 := Tryd.isAgg4
  z4 := Tryd.sizeOf4
  v4 := Tryd.zeroValue4
  t5 := Tryd.underlying5
  a5 := Tryd.isAgg5
  z5 := Tryd.sizeOf5
  v5 := Tryd.zeroValue5
  t9 := Tryd.underlying9
  a9 := Tryd.isAgg9
  z9 := Tryd.sizeOf9
  v9 := Tryd.zeroValue9
  t21 := Tryd.underlying21
  a21 := Tryd.isAgg21
  z21 := Tryd.sizeOf21
  v21 := Tryd.zeroValue21
  t31 := Tryd.underlying37
  a31 := Tryd.isAgg37
  z31 := Tryd.sizeOf37
  v31 := Tryd.zeroValue37
  t46 := Tryd.underlying132
  a46 := Tryd.isAgg132
  z46 := Tryd.sizeOf132
  v46 := Tryd.zeroValue132
  t51 := Tryd.underlying182
  a51 := Tryd.isAgg182
  z51 := Tryd.sizeOf182
  v51 := Tryd.zeroValue182
  t105 := Tryd.underlying186
  a105 := Tryd.isAgg186
  z105 := Tryd.sizeOf186
  v105 := Tryd.zeroValue186
  t119 := Tryd.underlying197
  a119 := Tryd.isAgg197
  z119 := Tryd.sizeOf197
  t138 := Tryd.underlying199
  a138 := Tryd.isAgg199
  z138 := Tryd.sizeOf199
  v138 := Tryd.zeroValue199
  t139 := Tryd.underlying200
  a139 := Tryd.isAgg200
  z139 := Tryd.sizeOf200
  v139 := Tryd.zeroValue200
  t146 := Tryd.underlying201
  a146 := Tryd.isAgg201
  z146 := Tryd.sizeOf201
  v146 := Tryd.zeroValue201
  g1 := by kernel_rfl
  g3 := by kernel_rfl
  g4 := by kernel_rfl }
def Tryd.lContF_ren : Go.Shelf.Ren := ⟨fun | 17 => 85 | 15 => 109 | 20 => 129 | n => n, fun | 9 => 9 | 23 => 146 | 4 => 4 | 3 => 3 | 0 => 0 | 21 => 21 | n => n, fun | n => n⟩
theorem Tryd.lContF : Go.Proofs.LaysGw.n17 Tryd.prog Tryd.lContF_ren := {
  mixed := by kernel_rfl
  f15 := Tryd.func109.trans (congrArg some (by kernel_rfl))
  f17 := Tryd.func85.trans (congrArg some (by kernel_rfl))
  f20 := Tryd.func129.trans (congrArg some (by kernel_rfl))
  t0 := Tryd.underlying0
  a0 := Tryd.isAgg0
  z0 := Tryd.sizeOf0
  v0 := Tryd.zeroValue0
  i0 := by kernel_rfl
  t3 := Tryd.underlying3
  a3 := Tryd.isAgg3
  z3 := Tryd.sizeOf3
  v3 := Tryd.zeroValue3
  i3 := by kernel_rfl
  t4 := Tryd.underlying4
  a4 := Tryd.isAgg4
  z4 := Tryd.sizeOf4
  v4 := Tryd.zeroValue4
  i4 := by kernel_rfl
  t9 := Tryd.underlying9
  a9 := Tryd.isAgg9
  z9 := Tryd.sizeOf9
  v9 := Tryd.zeroValue9
  i9 := by kernel_rfl
  t21 := Tryd.underlying21
  a21 := Tryd.isAgg21
  z21 := Tryd.sizeOf21
  v21 := Tryd.zeroValue21
  i21 := by kernel_rfl
  t23 := Tryd.underlying146
  a23 := Tryd.isAgg146
  z23 := Tryd.sizeOf146
  v23 := Tryd.zeroValue146
  i23 := by kernel_rfl }
def Tryd.lPre_ren : Go.Shelf.Ren := ⟨fun | 99 => 83 | 206 => 108 | n => n, fun | 9 => 9 | 4 => 4 | 3 => 3 | n => n, fun | n => n⟩
theorem Tryd.lPre : Go.Proofs.Lays.n99 Tryd.prog Tryd.lPre_ren := {
  mixed := by kernel_rfl
  f99 := Tryd.func83.trans (congrArg some (by kernel_rfl))
  f206 := Tryd.func108.trans (congrArg some (by kernel_rfl))
  t3 := Tryd.underlying3
  a3 := Tryd.isAgg3
  z3 := Tryd.sizeOf3
  v3 := Tryd.zeroValue3
  t4 := Tryd.underlying4
  a4 := Tryd.isAgg4
  z4 := Tryd.sizeOf4
  v4 := Tryd.zeroValue4
  t9 := Tryd.underlying9
  a9 := Tryd.isAgg9
  z9 := Tryd.sizeOf9
  v9 := Tryd.zeroValue9 }
end Go.Proofs
namespace Go.Proofs.YtceaeiaoanhlnaaDoor
open Go.ChangeShapes Go.WideShapes Go.ChangeAt Go.RowKit Go.Lib Go.Shelf
/-- the library's one variable that is read: some number -/
def MaxV (w : World) : Prop := ∃ m : Int, w.cell? ⟨2, 0, none⟩ = some (.int .i64 m)
theorem MaxV.ext {w w' : World} (h : MaxV w) (e : Ext w w') : MaxV w' := by
 obtain ⟨m, hm⟩ := h
 exact ⟨m, (e.cell (p := ⟨_, 0, none⟩) (World.block_lt_of_cell? w _ hm)).trans hm⟩
theorem strs_at {w : World} {a : Option Addr} {n cap : Nat} {xs : List ByteArray} (h : Strs w (.slice a n cap) xs) (i : Nat) (hi : i < xs.length) :
  ∃ b off, a = some ⟨b, off, none⟩ ∧ b < w.heap.size ∧ w.cell? ⟨b, off + i, none⟩ = some (.string xs[i]) := by
 obtain ⟨_, a', cap', hv, _, hc⟩ := h
 cases hv
 obtain ⟨b, off, ha, hb, hc⟩ := hc i xs[i] (List.getElem?_eq_getElem hi)
 exact ⟨b, off, ha, hb, by simpa using hc 0 _ rfl⟩
theorem strs_new (w : World) (xs : List ByteArray) (t : TypeId) (hl : xs.length ≤ 9223372036854775807) : Strs (w.alloc (.cells (xs.map Value.string).toArray t)) (.slice (some ⟨w.heap.size, 0, none⟩) xs.length xs.length) xs := by
 refine Sl.of_own (enc := encS) (size := 1) encS_len (base := 0) (e := t) ⟨by rw [flat_encS]; simp, .inr ⟨w.heap.size, xs.length, _, rfl, Nat.zero_le _, heap_alloc_new w _, Nat.le_refl _, by unfold maxLen; exact hl, by simp, by rw [flat_encS, Nat.mul_one]; exact List.take_of_length_le (by simp)⟩⟩ hl
theorem path_pre (s : ByteArray) (h : (s.toList == [47]) = false) (hp : Lib.hasPrefix s.data.toList [47] = true) : 2 ≤ s.size ∧ ∃ h0 : 0 < s.size, (s[0]'h0).toNat = 47 := by
 rw [toL] at h
 have hl := Lib.size_eq s
 unfold Lib.hasPrefix at hp
 cases hd : s.data.toList with
 | nil => rw [hd] at hp; simp at hp
 | cons c l =>
  rw [hd] at hp h hl
  have hc : c = 47 := by simpa using (by simpa using hp : (47 : UInt8) = c).symm
  have hne : l ≠ [] := fun e => by subst e; subst hc; simp at h
  have hlp := List.length_pos_iff.2 hne
  simp only [List.length_cons] at hl
  refine ⟨by omega, by omega, ?_⟩
  have hg := data_getElem? s 0 (by omega)
  rw [hd] at hg
  simp at hg
  rw [← hg, hc]; rfl
theorem path_nopre (s : ByteArray) (h : (s.toList == [47]) = false) (hp : Lib.hasPrefix s.data.toList [47] = false) : isPath s.data.toList = false := by
 rw [toL] at h
 unfold isPath
 rw [h]
 cases hd : s.data.toList with
 | nil => rfl
 | cons c l =>
  rw [hd] at hp
  have hc : c ≠ 47 := fun e => by subst e; simp [Lib.hasPrefix] at hp
  simp
  intro _ _ e
  exact absurd e hc
set_option maxRecDepth 100000 in
set_option maxHeartbeats 4000000 in
theorem mpath_any (s : ByteArray) (w : World) (hs : s.size ≤ 9223372036854775807) (hm : MaxV w) :
  Calls Tryd.prog 53 #[.string s] w fun e w' => e = .returned (.bool (isPath s.data.toList)) ∧ Ext w w' := by
 by_cases hr : (s.toList == [47]) = true
 ·have hp := hide (path_root s hr)
  go_enter Tryd.func53, Tryd.ntmps53
  go_wp2
  go_ret
  exact ⟨ret_bool hp.out.symm, Below.refl _ _⟩
 ·have hr : (s.toList == [47]) = false := by simpa using hr
  by_cases h60 : s.size ≤ 60
  ·have h60z : (s.size : Int) ≤ 60 := by omega
   have hpre : ∀ u : World, Calls Tryd.prog 83 #[.string s, .string ⟨#[47]⟩] u fun e w' => e = .returned (.bool (Lib.hasPrefix s.data.toList [47])) ∧ u = w' := fun u => (Any.strings_HasPrefix Tryd.lPre s ⟨#[47]⟩ u).mono (fun _ _ h => ⟨h.1, h.2.symm⟩)
   have hyes := path_pre s hr
   have hno := path_nopre s hr
   obtain ⟨t, ht⟩ : ∃ t, Lib.hasPrefix s.data.toList [47] = t := ⟨_, rfl⟩
   rw [ht] at hyes hno
   simp only [ht] at hpre
   have HPRE := hide hpre
   clear hpre ht
   cases t with
   | false =>
    have HB := hide (hno rfl)
    clear hno hyes
    go_enter Tryd.func53, Tryd.ntmps53
    go_wp2_with fail
    refine (HPRE.out _).mono ?_
    rintro e w' ⟨rfl, rfl⟩
    go_wp2
    go_ret
    exact ⟨ret_bool HB.out.symm, Below.refl _ _⟩
   | true =>
    obtain ⟨h2, h0, hc⟩ := hyes rfl
    have hbody := path_body s hr h2 h60 hc
    have h2z : (2 : Int) ≤ s.size := by omega
    clear hno hc
    have hT : (s.extract 1 s.size).data.toList = s.data.toList.tail := by rw [extract_to_end, List.drop_one]
    have hTs : (s.extract 1 s.size).size ≤ 60 := by
     have h1 := Lib.size_eq (s.extract 1 s.size)
     have h3 := Lib.size_eq s
     rw [hT, List.length_tail] at h1
     omega
    obtain ⟨m, hmm⟩ := hm
    have hspl : ∀ u : World, Ext w u → Calls Tryd.prog 55 #[.string (s.extract 1 s.size), .string ⟨#[47]⟩] u fun e w' => e = .returned (.slice (some ⟨u.heap.size, 0, none⟩) (Lib.countB (s.extract 1 s.size) ⟨#[47]⟩ + 1) (Lib.countB (s.extract 1 s.size) ⟨#[47]⟩ + 1)) ∧ w' = u.alloc (.cells ((Lib.splitB ⟨#[47]⟩ 0 (Lib.countB (s.extract 1 s.size) ⟨#[47]⟩) (s.extract 1 s.size)).map Value.string).toArray 9) := fun u hu =>
     Any.strings_Split Tryd.lSplit (by kernel_rfl) (s.extract 1 s.size) ⟨#[47]⟩ m u (by omega) ((hu.cell (p := ⟨_, 0, none⟩) (World.block_lt_of_cell? w _ hmm)).trans hmm) (by decide)
    have hlen := splitB_all ⟨#[47]⟩ (by decide) 0 _ (s.extract 1 s.size) rfl
    have hcle := countB_le ⟨#[47]⟩ (by decide) _ (s.extract 1 s.size) (Nat.le_refl _)
    have hdat := splitB_data ⟨#[47]⟩ 0 (Lib.countB (s.extract 1 s.size) ⟨#[47]⟩) (s.extract 1 s.size)
    have hrun := split_run (Lib.countB (s.extract 1 s.size) ⟨#[47]⟩) (s.extract 1 s.size).data.toList rfl
    have hall : ((Lib.splitB ⟨#[47]⟩ 0 (Lib.countB (s.extract 1 s.size) ⟨#[47]⟩) (s.extract 1 s.size)).all fun p => partB (bl p)) = isPath s.data.toList := by
     rw [hbody, ← hT, ← hrun]
     have : (⟨#[47]⟩ : ByteArray).data.toList = [47] := rfl
     rw [this] at hdat
     rw [← hdat, List.all_map]
     rfl
    obtain ⟨P, hP⟩ : ∃ P, Lib.splitB ⟨#[47]⟩ 0 (Lib.countB (s.extract 1 s.size) ⟨#[47]⟩) (s.extract 1 s.size) = P := ⟨_, rfl⟩
    obtain ⟨n, hn⟩ : ∃ n, Lib.countB (s.extract 1 s.size) ⟨#[47]⟩ = n := ⟨_, rfl⟩
    rw [hn] at hP hlen hcle
    simp only [hn, hP] at hspl
    rw [hn, hP] at hall
    rw [hP] at hlen
    have hn60 : n ≤ 60 := by omega
    have HSPL := hide hspl
    have HALL := hide hall
    have hnz : (n : Int) ≤ 60 := by omega
    have HLEN := hide hlen
    have hcf : ∀ (p : ByteArray) (u : World), Calls Tryd.prog 85 #[.string p, .func (.func 84) #[] #[]] u fun e w' => e = .returned (.bool (!(bl p).all sgn)) ∧ Ext u w' := fun p u => by
     have eg : ∀ args w, (callFunc 84 args).run Tryd.prog w = .ok (.enter 84 args) w := enters_of Tryd.func84 (by kernel_rfl) rfl
     have h := Any.strings_ContainsFunc Tryd.lContF 84 #[] eg wrongN p u (fun W x _ => ?_)
     ·rw [contains_wrong p] at h
      exact h
     ·exact (wrong_any x W).mono (fun _ _ h => ⟨h.1, 0, h.2.symm⟩)
    have HCF := hide hcf
    clear hbody hT hTs hmm hspl hlen hcle hdat hrun hall hP hn hcf hyes
    have h1 : (0 : Int) ≤ s.size - 1 := by omega
    go_enter Tryd.func53, Tryd.ntmps53
    go_wp2_with fail
    refine (HPRE.out _).mono ?_
    rintro e w' ⟨rfl, rfl⟩
    go_wp2_with fail
    refine (HSPL.out _ (Below.refl _ _)).mono ?_
    rintro e w1 ⟨rfl, hw1⟩
    have hst : Strs w1 (.slice (some ⟨w.heap.size, 0, none⟩) P.length P.length) P := by rw [hw1]; exact strs_new w P _ (by have := HLEN.out; omega)
    have he1 : Ext w w1 := by rw [hw1]; exact (Below.refl _ w).alloc (Nat.le_refl _) _
    have HST := hide hst
    have HE1 := hide he1
    clear hw1 hst he1
    go_wp2_with fail
    go_loopw [20] (fun i wr => ∃ k : Nat, k ≤ n + 1 ∧ i = .int .i64 k ∧ (P.take k).all (fun p => partB (bl p)) = true ∧ Ext w1 wr) (fun i _ => n + 1 - (intOf i).toNat)
    case atStart => exact ⟨0, by omega, rfl, by simp, Below.refl _ _⟩
    case round =>
     obtain ⟨k, hk, rfl, hok, hext⟩ := hrel
     by_cases hlt : k < n + 1
     ·have hkl : k < P.length := by have := HLEN.out; omega
      obtain ⟨b, off, eb, hbb, hc⟩ := strs_at (HST.out.ext hext) k hkl
      cases eb
      rw [Nat.zero_add] at hc
      have hsn : (P.take (k + 1)).all (fun p => partB (bl p)) = partB (bl P[k]) := by
       rw [take_snoc P k hkl, List.all_append, hok]; simp
      have hbd : partB (bl P[k]) = false → isPath s.data.toList = false := fun h => by
       rw [← HALL.out, List.all_eq_false]
       exact ⟨P[k], List.getElem_mem hkl, by rw [h]; simp⟩
      obtain ⟨p, hp⟩ : ∃ p, P[k] = p := ⟨_, rfl⟩
      rw [hp] at hc hsn hbd
      have hlz : (k : Int) < (n : Int) + 1 := by omega
      by_cases hpe : bl p = []
      ·have HB := hide (hbd (by rw [hpe]; rfl))
       have he1 : p.toList.isEmpty = true := by rw [toL]; show (bl p).isEmpty = true; rw [hpe]; rfl
       have he2 : (p.toList == []) = true := by rw [toL]; show (bl p == []) = true; rw [hpe]; rfl
       clear hpe hsn hbd hp hok
       go_wp2
       go_ret
       exact ⟨ret_bool HB.out.symm, HE1.out.trans hext⟩
      ·have he1 : p.toList.isEmpty = false := by rw [toL]; show (bl p).isEmpty = false; simpa using hpe
       have he2 : (p.toList == []) = false := by rw [toL]; show (bl p == []) = false; simpa using hpe
       have hpb : partB (bl p) = (bl p).all sgn := by unfold partB; simp [hpe]
       rw [hpb] at hsn hbd
       have hcf := HCF.out p
       obtain ⟨t, ht⟩ : ∃ t, (bl p).all sgn = t := ⟨_, rfl⟩
       rw [ht] at hsn hbd
       simp only [ht] at hcf
       have HSN := hide hsn
       have HBD := hide hbd
       have HCFP := hide hcf
       clear hpe hsn hbd hp hok hpb ht hcf
       go_wp2_with fail
       refine (HCFP.out _).mono ?_
       rintro e w7 ⟨rfl, E7⟩
       cases t with
       | true =>
        go_wp2
        go_roundw
        case rel => exact ⟨k + 1, hlt, by go_num, HSN.out, hext.trans E7⟩
        case measure => simp [intOf]; omega
       | false =>
        have HB := hide (HBD.out rfl)
        go_wp2
        go_ret
        exact ⟨ret_bool HB.out.symm, HE1.out.trans (hext.trans E7)⟩
     ·obtain rfl : k = n + 1 := by omega
      have hfin : isPath s.data.toList = true := by
       rw [← HALL.out]
       rw [List.take_of_length_le (by have := HLEN.out; omega)] at hok
       exact hok
      have HF := hide hfin
      have hlz : ¬ ((n : Int) + 1 < (n : Int) + 1) := by omega
      clear hok hfin
      go_wp2
      go_ret
      exact ⟨ret_bool HF.out.symm, HE1.out.trans hext⟩
  ·have HB := hide (path_size s hr (by omega))
   have h60z : (60 : Int) < s.size := by omega
   clear h60
   go_enter Tryd.func53, Tryd.ntmps53
   go_wp2
   go_ret
   exact ⟨ret_bool HB.out.symm, Below.refl _ _⟩
end Go.Proofs.YtceaeiaoanhlnaaDoor
