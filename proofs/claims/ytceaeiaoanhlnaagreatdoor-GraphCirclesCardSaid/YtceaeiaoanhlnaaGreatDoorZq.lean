/- Merged texts (PathA, PathB, PathC). -/
import Derived.Test.YtceaeiaoanhlnaaGreatDoorZa
import Derived.Shelf.Strings.Split
import Derived.Shelf.Strings.Prefix
import Derived.Shelf.Small.Wraps
import Derived.Shelf.GgClosure.StringsIndexFuncTop
import Derived.Ground.NamesProg
import Derived.Ground.GgwProg
namespace Go.Proofs.YtceaeiaoanhlnaaGreatDoor
open Go.ChangeShapes Go.WideShapes Go.ChangeAt Go.RowKit Go.Lib
set_option maxRecDepth 100000 in
theorem sign_any (c : UInt8) (w : World) : Calls Tryz.prog 150 #[.int .u8 c.toNat] w fun e w' => e = .returned (.bool (sgn c)) ∧ w = w' := by
 obtain ⟨n, hn⟩ : ∃ n : Nat, c.toNat = n := ⟨_, rfl⟩
 have hb : n < 256 := by rw [← hn]; exact c.toNat_lt
 have hs : sgn c = sgnN n := by unfold sgn; rw [hn]
 rw [hn, hs]
 have hbz : (n : Int) < 256 := by omega
 clear hn hs
 go_enter Tryz.func150, Tryz.ntmps150
 go_wp2
 all_goals
  go_ret
  refine ⟨ret_bool ?_, rfl⟩
  rw [Bool.eq_iff_iff]
  simp [sgnN]
  omega
set_option maxRecDepth 100000 in
theorem wrong_any (n : Nat) (w : World) : Calls Tryz.prog 101 #[.int .i32 n] w fun e w' => e = .returned (.bool (wrongN n)) ∧ w = w' := by
 go_enter Tryz.func101, Tryz.ntmps101
 go_wp2
 all_goals
  go_ret
  refine ⟨ret_bool ?_, rfl⟩
  rw [Bool.eq_iff_iff]
  simp [wrongN, sgnN]
  omega
/-! where a path is one -/
def stepN (st : Bool) (n : Nat) : Option Bool := if n = 47 then (if st then some false else none) else if sgnN n then some true else none
theorem stepP_N (st : Bool) (c : UInt8) : stepP (some st) c = stepN st c.toNat := by
 have : c = 47 ↔ c.toNat = 47 := by rw [← UInt8.toNat_inj]; rfl
 unfold stepP stepN sgn
 simp only [this]
theorem toL (s : ByteArray) : s.toList = s.data.toList := Lib.toList_data s
theorem path_root (s : ByteArray) (h : (s.toList == [47]) = true) : isPath s.data.toList = true := by
 rw [toL, beq_iff_eq] at h; rw [h]; rfl
theorem path_size (s : ByteArray) (h : (s.toList == [47]) = false) (h2 : ¬ (2 ≤ s.size ∧ s.size ≤ 60)) : isPath s.data.toList = false := by
 rw [toL] at h
 have hl := Lib.size_eq s
 unfold isPath
 rw [h]
 by_cases h3 : 2 ≤ s.data.toList.length
 ·have : ¬ s.data.toList.length ≤ 60 := by omega
  simp
  intros; omega
 ·simp
  intros; omega
theorem path_head (s : ByteArray) (h : (s.toList == [47]) = false) (h0 : 0 < s.size) (hc : (s[0]'h0).toNat ≠ 47) : isPath s.data.toList = false := by
 rw [toL] at h
 have hg := data_getElem? s 0 h0
 unfold isPath
 rw [h]
 have : (s.data.toList.head? == some 47) = false := by
  rw [List.head?_eq_getElem?, hg]
  simp
  intro e; apply hc; rw [e]; rfl
 rw [this]; simp
theorem path_body (s : ByteArray) (h : (s.toList == [47]) = false) (h2 : 2 ≤ s.size) (h60 : s.size ≤ 60) (hc : (s[0]'(by omega)).toNat = 47) : isPath s.data.toList = (runP s.data.toList.tail == some true) := by
 rw [toL] at h
 have hl := Lib.size_eq s
 have hg := data_getElem? s 0 (by omega)
 unfold isPath
 rw [h]
 have h3 : (s.data.toList.head? == some 47) = true := by
  rw [List.head?_eq_getElem?, hg]
  simp
  exact UInt8.toNat_inj.1 hc
 have h4 : 2 ≤ s.data.toList.length := by omega
 have h5 : s.data.toList.length ≤ 60 := by omega
 rw [h3]; simp
 intro _; omega
/-- the state ahead of place k (from 1 on) -/
def stAt (s : ByteArray) (k : Nat) : Option Bool := runP (s.data.toList.tail.take (k - 1))
theorem stAt_one (s : ByteArray) : stAt s 1 = some false := by simp [stAt, runP]
theorem stAt_succ (s : ByteArray) (k : Nat) (h1 : 1 ≤ k) (hk : k < s.size) (st : Bool) (h : stAt s k = some st) : stAt s (k + 1) = stepN st (s[k]'hk).toNat := by
 have hl := Lib.size_eq s
 have hg := data_getElem? s k hk
 obtain ⟨j, rfl⟩ : ∃ j, k = j + 1 := ⟨k - 1, by omega⟩
 unfold stAt at *
 have ht : s.data.toList.tail.take (j + 1 + 1 - 1) = s.data.toList.tail.take (j + 1 - 1) ++ [s[j + 1]] := by
  have hjl : j < s.data.toList.tail.length := by rw [List.length_tail]; omega
  have := List.take_succ_eq_append_getElem hjl
  simp only [Nat.add_sub_cancel]
  rw [this]
  congr 2
  have e : s.data.toList.tail[j]? = some s[j + 1] := by rw [List.getElem?_tail]; exact hg
  rw [List.getElem?_eq_getElem hjl] at e
  exact Option.some.inj e
 rw [ht, runP_snoc, h, stepP_N]
theorem stAt_end (s : ByteArray) : stAt s s.size = runP s.data.toList.tail := by
 have hl := Lib.size_eq s
 unfold stAt
 rw [List.take_of_length_le (by rw [List.length_tail]; omega)]
theorem stAt_bad (s : ByteArray) (k : Nat) (h : stAt s k = none) : runP s.data.toList.tail = none := by
 unfold stAt at h
 rw [← List.take_append_drop (k - 1) s.data.toList.tail]
 exact runP_none _ _ h
end Go.Proofs.YtceaeiaoanhlnaaGreatDoor
namespace Go.Proofs.YtceaeiaoanhlnaaGreatDoor
open Go.ChangeShapes Go.WideShapes Go.ChangeAt Go.RowKit Go.Lib
theorem Tryz.infoS : (Tryz.prog.info? 9).map (fun i => (i.zero, i.size, i.bytes)) = some (some (.string ByteArray.empty), 1, 16) := by kernel_rfl
theorem info_partsS {P : Program} {t : TypeId} {z : Value} {s b : Nat} (h : (P.info? t).map (fun i => (i.zero, i.size, i.bytes)) = some (some z, s, b)) : ∃ i, P.info? t = some i ∧ i.zero = some z ∧ i.size = s ∧ i.bytes = b := by
 cases hi : P.info? t with
 | none => simp [hi] at h
 | some i =>
  simp [hi] at h
  exact ⟨i, rfl, h.1, h.2.1, h.2.2⟩
/-- cut at each 47 -/
def spl (cur : List UInt8) : List UInt8 → List (List UInt8)
 | [] => [cur]
 | c :: cs => if c = 47 then cur :: spl [] cs else spl (cur ++ [c]) cs
/-- the parts of a path -/
def partsL (l : List UInt8) : List (List UInt8) := if l = [47] then [] else spl [] l.tail
def encS (s : ByteArray) : List Value := [.string s]
theorem encS_len (s : ByteArray) : (encS s).length = 1 := rfl
abbrev Strs := Sl encS 1
theorem flat_encS (D : List ByteArray) : D.flatMap encS = D.map Value.string := by
 induction D with
 | nil => rfl
 | cons a D ih => simp [encS, ih]
def bl (s : ByteArray) : List UInt8 := s.data.toList
/-- what stands from f to ahead of k -/
def segB (s : ByteArray) (f k : Nat) : List UInt8 := (s.data.toList.drop f).take (k - f)
theorem segB_ext (s : ByteArray) (f k : Nat) : bl (s.extract f k) = segB s f k := by
 unfold bl segB
 rw [← extract_toList, toL]
theorem segB_snoc (s : ByteArray) (f k : Nat) (hf : f ≤ k) (hk : k < s.size) : segB s f (k + 1) = segB s f k ++ [s[k]] := by
 unfold segB
 have hl := Lib.size_eq s
 have e : k + 1 - f = (k - f) + 1 := by omega
 have hlt : k - f < (s.data.toList.drop f).length := by rw [List.length_drop]; omega
 rw [e, List.take_succ_eq_append_getElem hlt]
 congr 2
 have h := data_getElem? s k hk
 have h2 : (s.data.toList.drop f)[k - f]? = some s[k] := by rw [List.getElem?_drop, show f + (k - f) = k by omega]; exact h
 rw [List.getElem?_eq_getElem hlt] at h2
 exact Option.some.inj h2
theorem segB_nil (s : ByteArray) (f : Nat) : segB s f f = [] := by unfold segB; simp
theorem spl_step (s : ByteArray) (cur : List UInt8) (k : Nat) (hk : k < s.size) : spl cur (s.data.toList.drop k) = if s[k] = 47 then cur :: spl [] (s.data.toList.drop (k + 1)) else spl (cur ++ [s[k]]) (s.data.toList.drop (k + 1)) := by
 have hl := Lib.size_eq s
 have h := data_getElem? s k hk
 have hlt : k < s.data.toList.length := by omega
 rw [List.drop_eq_getElem_cons hlt]
 have e : s.data.toList[k] = s[k] := by rw [List.getElem?_eq_getElem hlt] at h; exact Option.some.inj h
 rw [e]; rfl
theorem spl_end (s : ByteArray) (cur : List UInt8) : spl cur (s.data.toList.drop s.size) = [cur] := by
 have hl := Lib.size_eq s
 rw [List.drop_of_length_le (by omega)]; rfl
/-- how far the parts are, ahead of place k -/
def PartsAt (s : ByteArray) (k f : Nat) (D : List ByteArray) : Prop :=
 if k ≤ s.size then D.map bl ++ spl (segB s f k) (s.data.toList.drop k) = spl [] (s.data.toList.drop 1) ∧ stAt s k = some (decide (f < k))
 else D.map bl = spl [] (s.data.toList.drop 1) ∧ runP s.data.toList.tail = some true
theorem partsAt_one (s : ByteArray) (h : 1 ≤ s.size) : PartsAt s 1 1 [] := by
 unfold PartsAt
 rw [if_pos h, segB_nil, stAt_one]
 exact ⟨rfl, by simp⟩
theorem partsAt_in (s : ByteArray) (k f : Nat) (D : List ByteArray) (hf : f ≤ k) (h1 : 1 ≤ k) (hk : k < s.size) (h : PartsAt s k f D) (hn : s[k] ≠ 47) (hs : sgn s[k] = true) : PartsAt s (k + 1) f D := by
 unfold PartsAt at *
 rw [if_pos (by omega)] at h ⊢
 obtain ⟨ha, hb⟩ := h
 rw [spl_step s _ k hk, if_neg hn, ← segB_snoc s f k hf hk] at ha
 refine ⟨ha, ?_⟩
 have hn' : s[k].toNat ≠ 47 := fun e => hn (UInt8.toNat_inj.1 e)
 rw [stAt_succ s k h1 hk _ hb]
 unfold stepN
 rw [if_neg hn']
 unfold sgn at hs
 rw [if_pos hs]
 have : f < k + 1 := by omega
 simp [this]
theorem partsAt_bad (s : ByteArray) (k f : Nat) (D : List ByteArray) (h1 : 1 ≤ k) (hk : k < s.size) (h : PartsAt s k f D) (hn : s[k] ≠ 47) (hs : sgn s[k] = false) : runP s.data.toList.tail = none := by
 unfold PartsAt at h
 rw [if_pos (by omega)] at h
 have hn' : s[k].toNat ≠ 47 := fun e => hn (UInt8.toNat_inj.1 e)
 refine stAt_bad s (k + 1) ?_
 rw [stAt_succ s k h1 hk _ h.2]
 unfold stepN
 unfold sgn at hs
 rw [if_neg hn', hs]; rfl
theorem partsAt_cut (s : ByteArray) (k f : Nat) (D : List ByteArray) (hf : f < k) (hk : k ≤ s.size) (h : PartsAt s k f D) (hc : ∀ h : k < s.size, s[k] = 47) : PartsAt s (k + 1) (k + 1) (D ++ [s.extract f k]) := by
 unfold PartsAt at h ⊢
 rw [if_pos hk] at h
 obtain ⟨ha, hb⟩ := h
 by_cases hlt : k < s.size
 ·rw [if_pos (by omega), segB_nil]
  have h47 := hc hlt
  rw [spl_step s _ k hlt, if_pos h47] at ha
  refine ⟨?_, ?_⟩
  ·rw [List.map_append, List.append_assoc]
   simp only [List.map_cons, List.map_nil, List.singleton_append]
   rw [segB_ext]; exact ha
  ·rw [stAt_succ s k (by omega) hlt _ hb, h47]
   simp [stepN, hf]
 ·obtain rfl : k = s.size := by omega
  rw [if_neg (by omega)]
  rw [spl_end] at ha
  refine ⟨?_, ?_⟩
  ·rw [List.map_append]
   simp only [List.map_cons, List.map_nil]
   rw [segB_ext]; exact ha
  ·rw [← stAt_end, hb]; simp [hf]
theorem partsAt_empty (s : ByteArray) (k : Nat) (D : List ByteArray) (h1 : 1 ≤ k) (hk : k ≤ s.size) (h : PartsAt s k k D) (hc : ∀ h : k < s.size, s[k] = 47) : (runP s.data.toList.tail == some true) = false := by
 unfold PartsAt at h
 rw [if_pos hk] at h
 by_cases hlt : k < s.size
 ·rw [stAt_bad s (k + 1) (by rw [stAt_succ s k h1 hlt _ h.2, hc hlt]; simp [stepN])]; rfl
 ·obtain rfl : k = s.size := by omega
  rw [← stAt_end, h.2]; simp
set_option maxRecDepth 100000 in
set_option maxHeartbeats 4000000 in
theorem parts_any (s : ByteArray) (w : World) (hs : s.size ≤ 9223372036854775807) :
  Calls Tryz.prog 129 #[.string s] w fun e w' => ∃ v, e = .returned (.tuple #[v, .bool (isPath s.data.toList)]) ∧ (isPath s.data.toList = true → ∃ D : List ByteArray, D.map bl = partsL s.data.toList ∧ D.length ≤ 61 ∧ w'.ownsRow w.heap.size 9 1 v D.length (D.flatMap encS)) ∧ Ext w w' := by
 by_cases hr : (s.toList == [47]) = true
 ·have hp := hide (path_root s hr)
  have hpl := hide (show partsL s.data.toList = [] by rw [toL, beq_iff_eq] at hr; unfold partsL; rw [if_pos hr])
  go_enter Tryz.func129, Tryz.ntmps129
  go_wp2
  go_ret2
  exact ⟨.slice none 0 0, by rw [hp.out]; rfl, fun _ => ⟨[], by rw [hpl.out]; rfl, by simp, World.ownsRow_nil _ _ _ _⟩, Below.refl _ _⟩
 ·have hr : (s.toList == [47]) = false := by simpa using hr
  by_cases h2 : 2 ≤ s.size ∧ s.size ≤ 60
  ·obtain ⟨h2, h60⟩ := h2
   have h0 : 0 < s.size := by omega
   have h2z : (2 : Int) ≤ s.size := by omega
   have h60z : (s.size : Int) ≤ 60 := by omega
   by_cases hc : (s[0]'h0).toNat = 47
   ·have HP := hide (path_body s hr h2 h60 hc)
    have HPL := hide (show partsL s.data.toList = spl [] (s.data.toList.drop 1) by
     unfold partsL
     rw [if_neg (by rw [toL] at hr; simpa using hr), List.drop_one])
    have hcz : (((s[0]'h0).toNat : Int) != 47) = false := by rw [hc]; rfl
    obtain ⟨i0, hi, hz0, hz1, hz2⟩ := info_partsS Tryz.infoS
    clear hc
    go_enter Tryz.func129, Tryz.ntmps129
    go_wp2_with fail
    go_loopw [4, 5, 6] (fun v fv i wr => ∃ (k f : Nat) (D : List ByteArray), 1 ≤ k ∧ k ≤ s.size + 1 ∧ 1 ≤ f ∧ f ≤ k ∧ i = .int .i64 k ∧ fv = .int .i64 f ∧ PartsAt s k f D ∧ D.length ≤ k ∧ wr.ownsRow w.heap.size 9 1 v D.length (D.flatMap encS) ∧ Ext w wr) (fun _ _ i _ => s.size + 1 - (intOf i).toNat)
    case atStart => exact ⟨1, 1, [], by omega, by omega, by omega, by omega, rfl, rfl, partsAt_one s (by omega), by simp, World.ownsRow_nil _ _ _ _, Below.refl _ _⟩
    case round =>
     obtain ⟨k, f, D, hk1, hk, hf1, hf, rfl, rfl, hpa, hDl, hown, hext⟩ := hrel
     have HPA := hide hpa
     have hsz := hext.size
     clear hpa hcz
     by_cases hle : k ≤ s.size
     ·by_cases hin : k < s.size ∧ ∃ h : k < s.size, s[k] ≠ 47
      ·obtain ⟨hlt, _, hn47⟩ := hin
       have hnz : (((s[k]'hlt).toNat : Int) != 47) = true := by
        simp
        intro e
        exact hn47 (UInt8.toNat_inj.1 (by rw [show (47 : UInt8).toNat = 47 from rfl]; omega))
       have hpi := partsAt_in s k f D hf hk1 hlt HPA.out hn47
       have hpb := partsAt_bad s k f D hk1 hlt HPA.out hn47
       have hsg := sign_any (s[k]'hlt)
       obtain ⟨t, ht⟩ : ∃ t, sgn (s[k]'hlt) = t := ⟨_, rfl⟩
       simp only [ht] at hpi hpb hsg
       have HPI := hide hpi
       have HPB := hide hpb
       have HSG := hide hsg
       clear hpi hpb hsg ht hn47
       go_wp2_with fail
       refine (HSG.out _).mono ?_
       rintro e w' ⟨rfl, rfl⟩
       cases t with
       | true =>
        have h3 := HPI.out rfl
        have H3 := hide h3
        clear h3
        go_wp2
        go_roundw
        case rel => exact ⟨k + 1, f, D, by omega, by omega, by omega, by omega, by go_num, rfl, H3.out, by omega, hown, hext⟩
        case measure => simp [intOf]; omega
       | false =>
        have h3 := HPB.out rfl
        have h4 : isPath s.data.toList = false := by rw [HP.out, h3]; rfl
        have H4 := hide h4
        clear h3 h4
        go_wp2
        go_ret2
        exact ⟨.slice none 0 0, by rw [H4.out]; rfl, (fun h => by rw [H4.out] at h; cases h), hext⟩
      ·have hcut : ∀ h : k < s.size, s[k] = 47 := fun h => Classical.byContradiction fun hne => hin ⟨h, h, hne⟩
       have HCUT := hide hcut
       have hwalk : (∃ h : k < s.size, (((s[k]'h).toNat : Int) != 47) = false) ∨ decide (k < s.size) = false := by
        by_cases h : k < s.size
        ·exact .inl ⟨h, by rw [hcut h]; rfl⟩
        ·exact .inr (by simp; omega)
       clear hcut hin
       by_cases hfk : f = k
       ·subst hfk
        have h4 : isPath s.data.toList = false := by rw [HP.out]; exact partsAt_empty s f D hk1 hle HPA.out HCUT.out
        have H4 := hide h4
        have hff : ((f : Int) == f) = true := by simp
        clear h4
        rcases hwalk with ⟨hlt, hb⟩ | hb
        ·go_wp2
         go_ret2
         exact ⟨.slice none 0 0, by rw [H4.out]; rfl, (fun h => by rw [H4.out] at h; cases h), hext⟩
        ·go_wp2
         go_ret2
         exact ⟨.slice none 0 0, by rw [H4.out]; rfl, (fun h => by rw [H4.out] at h; cases h), hext⟩
       ·have hfk' : f < k := by omega
        have hff : ((k : Int) == f) = false := by simp; omega
        have hpc := partsAt_cut s k f D hfk' hle HPA.out HCUT.out
        have HPC := hide hpc
        have hfkz : (f : Int) ≤ k := by omega
        have hkz : (k : Int) ≤ s.size := by omega
        have hDl2 : D.length ≤ 60 := by omega
        clear hpc hfk
        rcases hwalk with ⟨hlt, hb⟩ | hb
        all_goals
         go_wp2_with (at_builtin; refine wpList_append_own _ (by rfl) _ _ 42 (by rfl) w.heap.size 9 i0 (.string ByteArray.empty) 1 16 Tryz.underlying42 hi hz0 hz1 hz2 rfl (by decide) _ D.length _ (by rfl) (hown.alloc _) ⟨wr.heap.size, 0, none⟩ 1 1 [.string (s.extract f k)] (by rfl) (by rfl) (cells_new wr [.string (s.extract f k)] 9) (by simp [Value.oneCell']) (by unfold maxLen; omega) (by omega) (by simp; omega) ?_; intro v2 w2 hown2 hgrow2 _)
         go_roundw
         case rel => exact ⟨k + 1, k + 1, D ++ [s.extract f k], by omega, by omega, by omega, by omega, by go_num, by go_num, HPC.out, by simp; omega, by rw [List.length_append, List.flatMap_append]; exact hown2, hext.app hown hgrow2⟩
         case measure => simp [intOf]; omega
     ·obtain rfl : k = s.size + 1 := by omega
      have hpa := HPA.out
      unfold PartsAt at hpa
      rw [if_neg (by omega)] at hpa
      have hfin : isPath s.data.toList = true ∧ D.map bl = partsL s.data.toList := ⟨by rw [HP.out, hpa.2]; rfl, by rw [HPL.out]; exact hpa.1⟩
      have HF := hide hfin
      clear hpa hfin
      go_wp2
      go_ret2
      exact ⟨_, by rw [HF.out.1]; rfl, fun _ => ⟨D, HF.out.2, by omega, hown⟩, hext⟩
   ·have HB := hide (path_head s hr h0 hc)
    have hcz : (((s[0]'h0).toNat : Int) != 47) = true := by simp; omega
    clear hc
    go_enter Tryz.func129, Tryz.ntmps129
    go_wp2
    go_ret2
    exact ⟨.slice none 0 0, by rw [HB.out]; rfl, (fun h => by rw [HB.out] at h; cases h), Below.refl _ _⟩
  ·have HB := hide (path_size s hr h2)
   by_cases h3 : s.size < 2
   ·have h3z : (s.size : Int) < 2 := by omega
    clear h2
    go_enter Tryz.func129, Tryz.ntmps129
    go_wp2
    go_ret2
    exact ⟨.slice none 0 0, by rw [HB.out]; rfl, (fun h => by rw [HB.out] at h; cases h), Below.refl _ _⟩
   ·have h3z : ¬ (s.size : Int) < 2 := by omega
    have h4z : (60 : Int) < s.size := by omega
    clear h2 h3
    go_enter Tryz.func129, Tryz.ntmps129
    go_wp2
    go_ret2
    exact ⟨.slice none 0 0, by rw [HB.out]; rfl, (fun h => by rw [HB.out] at h; cases h), Below.refl _ _⟩
end Go.Proofs.YtceaeiaoanhlnaaGreatDoor
namespace Go.Proofs
open Go.Shelf
def Tryz.lSplit_ren : Go.Shelf.Ren := ⟨fun | 146 => 102 | 221 => 133 | 268 => 151 | 138 => 141 | 143 => 152 | 195 => 158 | 197 => 162 | 218 => 159 | 219 => 163 | 260 => 168 | 217 => 169 | 225 => 170 | 224 => 171 | 267 => 172 | 266 => 173 | 314 => 174 | n => n, fun | 9 => 9 | 31 => 42 | 3 => 3 | 4 => 4 | 0 => 0 | 105 => 211 | 21 => 21 | 5 => 5 | 46 => 139 | 119 => 215 | 139 => 218 | 138 => 217 | 146 => 219 | 51 => 171 | n => n, fun | 1 => 2 | 3 => 3 | 4 => 4 | n => n⟩
theorem Tryz.lSplit : Go.Proofs.Lays.n146 Tryz.prog Tryz.lSplit_ren := {
  mixed := by kernel_rfl
  f138 := Tryz.func141.trans (congrArg some (by kernel_rfl))
  f143 := Tryz.func152.trans (congrArg some (by kernel_rfl))
  f146 := Tryz.func102.trans (congrArg some (by kernel_rfl))
  f195 := Tryz.func158.trans (congrArg some (by kernel_rfl))
  f197 := Tryz.func162.trans (congrArg some (by kernel_rfl))
  f217 := Tryz.func169.trans (congrArg some (by kernel_rfl))
  f218 := Tryz.func159.trans (congrArg some (by kernel_rfl))
  f219 := Tryz.func163.trans (congrArg some (by kernel_rfl))
  f221 := Tryz.func133.trans (congrArg some (by kernel_rfl))
  f224 := Tryz.func171.trans (congrArg some (by kernel_rfl))
  f225 := Tryz.func170.trans (congrArg some (by kernel_rfl))
  f260 := Tryz.func168.trans (congrArg some (by kernel_rfl))
  f266 := Tryz.func173.trans (congrArg some (by kernel_rfl))
  f267 := Tryz.func172.trans (congrArg some (by kernel_rfl))
  f268 := Tryz.func151.trans (congrArg some (by kernel_rfl))
  f314 := Tryz.func174.trans (congrArg some (by kernel_rfl))
  t0 := Tryz.underlying0
  a0 := Tryz.isAgg0
  z0 := Tryz.sizeOf0
  v0 := Tryz.zeroValue0
  t3 := Tryz.underlying3
  a3 := Tryz.isAgg3
  z3 := Tryz.sizeOf3
  v3 := Tryz.zeroValue3
  t4 := Tryz.underlying4
  a4 := Tryz.isAgg4
  z4 := Tryz.sizeOf4
  v4 := Tryz.zeroValue4
  t5 := Tryz.underlying5
  a5 := Tryz.isAgg5
  z5 := Tryz.sizeOf5
  v5 := Tryz.zeroValue5
  t9 := Tryz.underlying9
  a9 := Tryz.isAgg9
  z9 := Tryz.sizeOf9
  v9 := Tryz.zeroValue9
  t21 := Tryz.underlying21
  a21 := Tryz.isAgg21
  z21 := Tryz.sizeOf21
  v21 := Tryz.zeroValue21
  t31 := Tryz.underlying42
  a31 := Tryz.isAgg42
  z31 := Tryz.sizeOf42
  v31 := Tryz.zeroValue42
  t46 := Tryz.underlying139
  a46 := Tryz.isAgg139
  z46 := Tryz.sizeOf139
  v46 := Tryz.zeroValue139
  t51 := Tryz.underlying171
  a51 := Tryz.isAgg171
  z51 := Tryz.sizeOf171
  v51 := Tryz.zeroValue171
  t105 := Tryz.underlying211
  a105 := Tryz.isAgg211
  z105 := Tryz.sizeOf211
  v105 := Tryz.zeroValue211
  t119 := Tryz.underlying215
  a119 := Tryz.isAgg215
  z119 := Tryz.sizeOf215
  t138 := Tryz.underlying217
  a138 := Tryz.isAgg217
  z138 := Tryz.sizeOf217
  v138 := Tryz.zeroValue217
  t139 := Tryz.underlying218
  a139 := Tryz.isAgg218
  z139 := Tryz.sizeOf218
  v139 := Tryz.zeroValue218
  t146 := Tryz.underlying219
  a146 := Tryz.isAgg219
  z146 := Tryz.sizeOf219
  v146 := Tryz.zeroValue219
  g1 := by kernel_rfl
  g3 := by kernel_rfl
  g4 := by kernel_rfl }
def Tryz.lContF_ren : Go.Shelf.Ren := ⟨fun | 17 => 103 | 15 => 134 | 20 => 153 | n => n, fun | 9 => 9 | 23 => 149 | 4 => 4 | 3 => 3 | 0 => 0 | 21 => 21 | n => n, fun | n => n⟩
theorem Tryz.lContF : Go.Proofs.LaysGw.n17 Tryz.prog Tryz.lContF_ren := {
  mixed := by kernel_rfl
  f15 := Tryz.func134.trans (congrArg some (by kernel_rfl))
  f17 := Tryz.func103.trans (congrArg some (by kernel_rfl))
  f20 := Tryz.func153.trans (congrArg some (by kernel_rfl))
  t0 := Tryz.underlying0
  a0 := Tryz.isAgg0
  z0 := Tryz.sizeOf0
  v0 := Tryz.zeroValue0
  i0 := by kernel_rfl
  t3 := Tryz.underlying3
  a3 := Tryz.isAgg3
  z3 := Tryz.sizeOf3
  v3 := Tryz.zeroValue3
  i3 := by kernel_rfl
  t4 := Tryz.underlying4
  a4 := Tryz.isAgg4
  z4 := Tryz.sizeOf4
  v4 := Tryz.zeroValue4
  i4 := by kernel_rfl
  t9 := Tryz.underlying9
  a9 := Tryz.isAgg9
  z9 := Tryz.sizeOf9
  v9 := Tryz.zeroValue9
  i9 := by kernel_rfl
  t21 := Tryz.underlying21
  a21 := Tryz.isAgg21
  z21 := Tryz.sizeOf21
  v21 := Tryz.zeroValue21
  i21 := by kernel_rfl
  t23 := Tryz.underlying149
  a23 := Tryz.isAgg149
  z23 := Tryz.sizeOf149
  v23 := Tryz.zeroValue149
  i23 := by kernel_rfl }
def Tryz.lPre_ren : Go.Shelf.Ren := ⟨fun | 99 => 100 | 206 => 132 | n => n, fun | 9 => 9 | 4 => 4 | 3 => 3 | n => n, fun | n => n⟩
theorem Tryz.lPre : Go.Proofs.Lays.n99 Tryz.prog Tryz.lPre_ren := {
  mixed := by kernel_rfl
  f99 := Tryz.func100.trans (congrArg some (by kernel_rfl))
  f206 := Tryz.func132.trans (congrArg some (by kernel_rfl))
  t3 := Tryz.underlying3
  a3 := Tryz.isAgg3
  z3 := Tryz.sizeOf3
  v3 := Tryz.zeroValue3
  t4 := Tryz.underlying4
  a4 := Tryz.isAgg4
  z4 := Tryz.sizeOf4
  v4 := Tryz.zeroValue4
  t9 := Tryz.underlying9
  a9 := Tryz.isAgg9
  z9 := Tryz.sizeOf9
  v9 := Tryz.zeroValue9 }
end Go.Proofs
namespace Go.Proofs.YtceaeiaoanhlnaaGreatDoor
open Go.ChangeShapes Go.WideShapes Go.ChangeAt Go.RowKit Go.Lib Go.Shelf
/-- the library's one variable that is read: some number -/
def MaxV (w : World) : Prop := ∃ m : Int, w.cell? ⟨2, 0, none⟩ = some (.int .i64 m)
theorem MaxV.ext {w w' : World} (h : MaxV w) (e : Ext w w') : MaxV w' := by
 obtain ⟨m, hm⟩ := h
 exact ⟨m, (e.cell (p := ⟨_, 0, none⟩) (World.block_lt_of_cell? w _ hm)).trans hm⟩
theorem strs_at {w : World} {a : Option Addr} {n cap : Nat} {xs : List ByteArray} (h : Strs w (.slice a n cap) xs) (i : Nat) (hi : i < xs.length) :
  ∃ b off, a = some ⟨b, off, none⟩ ∧ b < w.heap.size ∧ w.cell? ⟨b, off + i, none⟩ = some (.string xs[i]) := by
 obtain ⟨_, a', cap', hv, _, hc⟩ := h
 cases hv
 obtain ⟨b, off, ha, hb, hc⟩ := hc i xs[i] (List.getElem?_eq_getElem hi)
 exact ⟨b, off, ha, hb, by simpa using hc 0 _ rfl⟩
theorem strs_new (w : World) (xs : List ByteArray) (t : TypeId) (hl : xs.length ≤ 9223372036854775807) : Strs (w.alloc (.cells (xs.map Value.string).toArray t)) (.slice (some ⟨w.heap.size, 0, none⟩) xs.length xs.length) xs := by
 refine Sl.of_own (enc := encS) (size := 1) encS_len (base := 0) (e := t) ⟨by rw [flat_encS]; simp, .inr ⟨w.heap.size, xs.length, _, rfl, Nat.zero_le _, heap_alloc_new w _, Nat.le_refl _, by unfold maxLen; exact hl, by simp, by rw [flat_encS, Nat.mul_one]; exact List.take_of_length_le (by simp)⟩⟩ hl
theorem path_pre (s : ByteArray) (h : (s.toList == [47]) = false) (hp : Lib.hasPrefix s.data.toList [47] = true) : 2 ≤ s.size ∧ ∃ h0 : 0 < s.size, (s[0]'h0).toNat = 47 := by
 rw [toL] at h
 have hl := Lib.size_eq s
 unfold Lib.hasPrefix at hp
 cases hd : s.data.toList with
 | nil => rw [hd] at hp; simp at hp
 | cons c l =>
  rw [hd] at hp h hl
  have hc : c = 47 := by simpa using (by simpa using hp : (47 : UInt8) = c).symm
  have hne : l ≠ [] := fun e => by subst e; subst hc; simp at h
  have hlp := List.length_pos_iff.2 hne
  simp only [List.length_cons] at hl
  refine ⟨by omega, by omega, ?_⟩
  have hg := data_getElem? s 0 (by omega)
  rw [hd] at hg
  simp at hg
  rw [← hg, hc]; rfl
theorem path_nopre (s : ByteArray) (h : (s.toList == [47]) = false) (hp : Lib.hasPrefix s.data.toList [47] = false) : isPath s.data.toList = false := by
 rw [toL] at h
 unfold isPath
 rw [h]
 cases hd : s.data.toList with
 | nil => rfl
 | cons c l =>
  rw [hd] at hp
  have hc : c ≠ 47 := fun e => by subst e; simp [Lib.hasPrefix] at hp
  simp
  intro _ _ e
  exact absurd e hc
set_option maxRecDepth 100000 in
set_option maxHeartbeats 4000000 in
theorem mpath_any (s : ByteArray) (w : World) (hs : s.size ≤ 9223372036854775807) (hm : MaxV w) :
  Calls Tryz.prog 81 #[.string s] w fun e w' => e = .returned (.bool (isPath s.data.toList)) ∧ Ext w w' := by
 by_cases hr : (s.toList == [47]) = true
 ·have hp := hide (path_root s hr)
  go_enter Tryz.func81, Tryz.ntmps81
  go_wp2
  go_ret
  exact ⟨ret_bool hp.out.symm, Below.refl _ _⟩
 ·have hr : (s.toList == [47]) = false := by simpa using hr
  by_cases h60 : s.size ≤ 60
  ·have h60z : (s.size : Int) ≤ 60 := by omega
   have hpre : ∀ u : World, Calls Tryz.prog 100 #[.string s, .string ⟨#[47]⟩] u fun e w' => e = .returned (.bool (Lib.hasPrefix s.data.toList [47])) ∧ u = w' := fun u => (Any.strings_HasPrefix Tryz.lPre s ⟨#[47]⟩ u).mono (fun _ _ h => ⟨h.1, h.2.symm⟩)
   have hyes := path_pre s hr
   have hno := path_nopre s hr
   obtain ⟨t, ht⟩ : ∃ t, Lib.hasPrefix s.data.toList [47] = t := ⟨_, rfl⟩
   rw [ht] at hyes hno
   simp only [ht] at hpre
   have HPRE := hide hpre
   clear hpre ht
   cases t with
   | false =>
    have HB := hide (hno rfl)
    clear hno hyes
    go_enter Tryz.func81, Tryz.ntmps81
    go_wp2_with fail
    refine (HPRE.out _).mono ?_
    rintro e w' ⟨rfl, rfl⟩
    go_wp2
    go_ret
    exact ⟨ret_bool HB.out.symm, Below.refl _ _⟩
   | true =>
    obtain ⟨h2, h0, hc⟩ := hyes rfl
    have hbody := path_body s hr h2 h60 hc
    have h2z : (2 : Int) ≤ s.size := by omega
    clear hno hc
    have hT : (s.extract 1 s.size).data.toList = s.data.toList.tail := by rw [extract_to_end, List.drop_one]
    have hTs : (s.extract 1 s.size).size ≤ 60 := by
     have h1 := Lib.size_eq (s.extract 1 s.size)
     have h3 := Lib.size_eq s
     rw [hT, List.length_tail] at h1
     omega
    obtain ⟨m, hmm⟩ := hm
    have hspl : ∀ u : World, Ext w u → Calls Tryz.prog 102 #[.string (s.extract 1 s.size), .string ⟨#[47]⟩] u fun e w' => e = .returned (.slice (some ⟨u.heap.size, 0, none⟩) (Lib.countB (s.extract 1 s.size) ⟨#[47]⟩ + 1) (Lib.countB (s.extract 1 s.size) ⟨#[47]⟩ + 1)) ∧ w' = u.alloc (.cells ((Lib.splitB ⟨#[47]⟩ 0 (Lib.countB (s.extract 1 s.size) ⟨#[47]⟩) (s.extract 1 s.size)).map Value.string).toArray 9) := fun u hu =>
     Any.strings_Split Tryz.lSplit (by kernel_rfl) (s.extract 1 s.size) ⟨#[47]⟩ m u (by omega) ((hu.cell (p := ⟨_, 0, none⟩) (World.block_lt_of_cell? w _ hmm)).trans hmm) (by decide)
    have hlen := splitB_all ⟨#[47]⟩ (by decide) 0 _ (s.extract 1 s.size) rfl
    have hcle := countB_le ⟨#[47]⟩ (by decide) _ (s.extract 1 s.size) (Nat.le_refl _)
    have hdat := splitB_data ⟨#[47]⟩ 0 (Lib.countB (s.extract 1 s.size) ⟨#[47]⟩) (s.extract 1 s.size)
    have hrun := split_run (Lib.countB (s.extract 1 s.size) ⟨#[47]⟩) (s.extract 1 s.size).data.toList rfl
    have hall : ((Lib.splitB ⟨#[47]⟩ 0 (Lib.countB (s.extract 1 s.size) ⟨#[47]⟩) (s.extract 1 s.size)).all fun p => partB (bl p)) = isPath s.data.toList := by
     rw [hbody, ← hT, ← hrun]
     have : (⟨#[47]⟩ : ByteArray).data.toList = [47] := rfl
     rw [this] at hdat
     rw [← hdat, List.all_map]
     rfl
    obtain ⟨P, hP⟩ : ∃ P, Lib.splitB ⟨#[47]⟩ 0 (Lib.countB (s.extract 1 s.size) ⟨#[47]⟩) (s.extract 1 s.size) = P := ⟨_, rfl⟩
    obtain ⟨n, hn⟩ : ∃ n, Lib.countB (s.extract 1 s.size) ⟨#[47]⟩ = n := ⟨_, rfl⟩
    rw [hn] at hP hlen hcle
    simp only [hn, hP] at hspl
    rw [hn, hP] at hall
    rw [hP] at hlen
    have hn60 : n ≤ 60 := by omega
    have HSPL := hide hspl
    have HALL := hide hall
    have hnz : (n : Int) ≤ 60 := by omega
    have HLEN := hide hlen
    have hcf : ∀ (p : ByteArray) (u : World), Calls Tryz.prog 103 #[.string p, .func (.func 101) #[] #[]] u fun e w' => e = .returned (.bool (!(bl p).all sgn)) ∧ Ext u w' := fun p u => by
     have eg : ∀ args w, (callFunc 101 args).run Tryz.prog w = .ok (.enter 101 args) w := enters_of Tryz.func101 (by kernel_rfl) rfl
     have h := Any.strings_ContainsFunc Tryz.lContF 101 #[] eg wrongN p u (fun W x _ => ?_)
     ·rw [contains_wrong p] at h
      exact h
     ·exact (wrong_any x W).mono (fun _ _ h => ⟨h.1, 0, h.2.symm⟩)
    have HCF := hide hcf
    clear hbody hT hTs hmm hspl hlen hcle hdat hrun hall hP hn hcf hyes
    have h1 : (0 : Int) ≤ s.size - 1 := by omega
    go_enter Tryz.func81, Tryz.ntmps81
    go_wp2_with fail
    refine (HPRE.out _).mono ?_
    rintro e w' ⟨rfl, rfl⟩
    go_wp2_with fail
    refine (HSPL.out _ (Below.refl _ _)).mono ?_
    rintro e w1 ⟨rfl, hw1⟩
    have hst : Strs w1 (.slice (some ⟨w.heap.size, 0, none⟩) P.length P.length) P := by rw [hw1]; exact strs_new w P _ (by have := HLEN.out; omega)
    have he1 : Ext w w1 := by rw [hw1]; exact (Below.refl _ w).alloc (Nat.le_refl _) _
    have HST := hide hst
    have HE1 := hide he1
    clear hw1 hst he1
    go_wp2_with fail
    go_loopw [20] (fun i wr => ∃ k : Nat, k ≤ n + 1 ∧ i = .int .i64 k ∧ (P.take k).all (fun p => partB (bl p)) = true ∧ Ext w1 wr) (fun i _ => n + 1 - (intOf i).toNat)
    case atStart => exact ⟨0, by omega, rfl, by simp, Below.refl _ _⟩
    case round =>
     obtain ⟨k, hk, rfl, hok, hext⟩ := hrel
     by_cases hlt : k < n + 1
     ·have hkl : k < P.length := by have := HLEN.out; omega
      obtain ⟨b, off, eb, hbb, hc⟩ := strs_at (HST.out.ext hext) k hkl
      cases eb
      rw [Nat.zero_add] at hc
      have hsn : (P.take (k + 1)).all (fun p => partB (bl p)) = partB (bl P[k]) := by
       rw [take_snoc P k hkl, List.all_append, hok]; simp
      have hbd : partB (bl P[k]) = false → isPath s.data.toList = false := fun h => by
       rw [← HALL.out, List.all_eq_false]
       exact ⟨P[k], List.getElem_mem hkl, by rw [h]; simp⟩
      obtain ⟨p, hp⟩ : ∃ p, P[k] = p := ⟨_, rfl⟩
      rw [hp] at hc hsn hbd
      have hlz : (k : Int) < (n : Int) + 1 := by omega
      by_cases hpe : bl p = []
      ·have HB := hide (hbd (by rw [hpe]; rfl))
       have he1 : p.toList.isEmpty = true := by rw [toL]; show (bl p).isEmpty = true; rw [hpe]; rfl
       have he2 : (p.toList == []) = true := by rw [toL]; show (bl p == []) = true; rw [hpe]; rfl
       clear hpe hsn hbd hp hok
       go_wp2
       go_ret
       exact ⟨ret_bool HB.out.symm, HE1.out.trans hext⟩
      ·have he1 : p.toList.isEmpty = false := by rw [toL]; show (bl p).isEmpty = false; simpa using hpe
       have he2 : (p.toList == []) = false := by rw [toL]; show (bl p == []) = false; simpa using hpe
       have hpb : partB (bl p) = (bl p).all sgn := by unfold partB; simp [hpe]
       rw [hpb] at hsn hbd
       have hcf := HCF.out p
       obtain ⟨t, ht⟩ : ∃ t, (bl p).all sgn = t := ⟨_, rfl⟩
       rw [ht] at hsn hbd
       simp only [ht] at hcf
       have HSN := hide hsn
       have HBD := hide hbd
       have HCFP := hide hcf
       clear hpe hsn hbd hp hok hpb ht hcf
       go_wp2_with fail
       refine (HCFP.out _).mono ?_
       rintro e w7 ⟨rfl, E7⟩
       cases t with
       | true =>
        go_wp2
        go_roundw
        case rel => exact ⟨k + 1, hlt, by go_num, HSN.out, hext.trans E7⟩
        case measure => simp [intOf]; omega
       | false =>
        have HB := hide (HBD.out rfl)
        go_wp2
        go_ret
        exact ⟨ret_bool HB.out.symm, HE1.out.trans (hext.trans E7)⟩
     ·obtain rfl : k = n + 1 := by omega
      have hfin : isPath s.data.toList = true := by
       rw [← HALL.out]
       rw [List.take_of_length_le (by have := HLEN.out; omega)] at hok
       exact hok
      have HF := hide hfin
      have hlz : ¬ ((n : Int) + 1 < (n : Int) + 1) := by omega
      clear hok hfin
      go_wp2
      go_ret
      exact ⟨ret_bool HF.out.symm, HE1.out.trans hext⟩
  ·have HB := hide (path_size s hr (by omega))
   have h60z : (60 : Int) < s.size := by omega
   clear h60
   go_enter Tryz.func81, Tryz.ntmps81
   go_wp2
   go_ret
   exact ⟨ret_bool HB.out.symm, Below.refl _ _⟩
end Go.Proofs.YtceaeiaoanhlnaaGreatDoor
