
/- The reference's Parts and Path. -/
import Derived.Test.YtlaaapfpchnmeaaGreatDoorPathA
namespace Go.Proofs.YtlaaapfpchnmeaaGreatDoor
open Go.ChangeShapes Go.WideShapes Go.ChangeAt Go.RowKit Go.Lib
theorem Tryz.infoS : (Tryz.prog.info? 9).map (fun i => (i.zero, i.size, i.bytes)) = some (some (.string ByteArray.empty), 1, 16) := by kernel_rfl
theorem info_partsS {P : Program} {t : TypeId} {z : Value} {s b : Nat} (h : (P.info? t).map (fun i => (i.zero, i.size, i.bytes)) = some (some z, s, b)) : ∃ i, P.info? t = some i ∧ i.zero = some z ∧ i.size = s ∧ i.bytes = b := by
  cases hi : P.info? t with
  | none => simp [hi] at h
  | some i =>
    simp [hi] at h
    exact ⟨i, rfl, h.1, h.2.1, h.2.2⟩
/-- cut at each 47 -/
def spl (cur : List UInt8) : List UInt8 → List (List UInt8)
  | [] => [cur]
  | c :: cs => if c = 47 then cur :: spl [] cs else spl (cur ++ [c]) cs
/-- the parts of a path -/
def partsL (l : List UInt8) : List (List UInt8) := if l = [47] then [] else spl [] l.tail
def encS (s : ByteArray) : List Value := [.string s]
theorem encS_len (s : ByteArray) : (encS s).length = 1 := rfl
abbrev Strs := Sl encS 1
theorem flat_encS (D : List ByteArray) : D.flatMap encS = D.map Value.string := by
  induction D with
  | nil => rfl
  | cons a D ih => simp [encS, ih]
def bl (s : ByteArray) : List UInt8 := s.data.toList
/-- what stands from f to ahead of k -/
def segB (s : ByteArray) (f k : Nat) : List UInt8 := (s.data.toList.drop f).take (k - f)
theorem segB_ext (s : ByteArray) (f k : Nat) : bl (s.extract f k) = segB s f k := by
  unfold bl segB
  rw [← extract_toList, toL]
theorem segB_snoc (s : ByteArray) (f k : Nat) (hf : f ≤ k) (hk : k < s.size) : segB s f (k + 1) = segB s f k ++ [s[k]] := by
  unfold segB
  have hl := Lib.size_eq s
  have e : k + 1 - f = (k - f) + 1 := by omega
  have hlt : k - f < (s.data.toList.drop f).length := by rw [List.length_drop]; omega
  rw [e, List.take_succ_eq_append_getElem hlt]
  congr 2
  have h := data_getElem? s k hk
  have h2 : (s.data.toList.drop f)[k - f]? = some s[k] := by rw [List.getElem?_drop, show f + (k - f) = k by omega]; exact h
  rw [List.getElem?_eq_getElem hlt] at h2
  exact Option.some.inj h2
theorem segB_nil (s : ByteArray) (f : Nat) : segB s f f = [] := by unfold segB; simp
theorem spl_step (s : ByteArray) (cur : List UInt8) (k : Nat) (hk : k < s.size) : spl cur (s.data.toList.drop k) = if s[k] = 47 then cur :: spl [] (s.data.toList.drop (k + 1)) else spl (cur ++ [s[k]]) (s.data.toList.drop (k + 1)) := by
  have hl := Lib.size_eq s
  have h := data_getElem? s k hk
  have hlt : k < s.data.toList.length := by omega
  rw [List.drop_eq_getElem_cons hlt]
  have e : s.data.toList[k] = s[k] := by rw [List.getElem?_eq_getElem hlt] at h; exact Option.some.inj h
  rw [e]; rfl
theorem spl_end (s : ByteArray) (cur : List UInt8) : spl cur (s.data.toList.drop s.size) = [cur] := by
  have hl := Lib.size_eq s
  rw [List.drop_of_length_le (by omega)]; rfl
/-- how far the parts are, ahead of place k -/
def PartsAt (s : ByteArray) (k f : Nat) (D : List ByteArray) : Prop :=
  if k ≤ s.size then D.map bl ++ spl (segB s f k) (s.data.toList.drop k) = spl [] (s.data.toList.drop 1) ∧ stAt s k = some (decide (f < k))
  else D.map bl = spl [] (s.data.toList.drop 1) ∧ runP s.data.toList.tail = some true
theorem partsAt_one (s : ByteArray) (h : 1 ≤ s.size) : PartsAt s 1 1 [] := by
  unfold PartsAt
  rw [if_pos h, segB_nil, stAt_one]
  exact ⟨rfl, by simp⟩
theorem partsAt_in (s : ByteArray) (k f : Nat) (D : List ByteArray) (hf : f ≤ k) (h1 : 1 ≤ k) (hk : k < s.size) (h : PartsAt s k f D) (hn : s[k] ≠ 47) (hs : sgn s[k] = true) : PartsAt s (k + 1) f D := by
  unfold PartsAt at *
  rw [if_pos (by omega)] at h ⊢
  obtain ⟨ha, hb⟩ := h
  rw [spl_step s _ k hk, if_neg hn, ← segB_snoc s f k hf hk] at ha
  refine ⟨ha, ?_⟩
  have hn' : s[k].toNat ≠ 47 := fun e => hn (UInt8.toNat_inj.1 e)
  rw [stAt_succ s k h1 hk _ hb]
  unfold stepN
  rw [if_neg hn']
  unfold sgn at hs
  rw [if_pos hs]
  have : f < k + 1 := by omega
  simp [this]
theorem partsAt_bad (s : ByteArray) (k f : Nat) (D : List ByteArray) (h1 : 1 ≤ k) (hk : k < s.size) (h : PartsAt s k f D) (hn : s[k] ≠ 47) (hs : sgn s[k] = false) : runP s.data.toList.tail = none := by
  unfold PartsAt at h
  rw [if_pos (by omega)] at h
  have hn' : s[k].toNat ≠ 47 := fun e => hn (UInt8.toNat_inj.1 e)
  refine stAt_bad s (k + 1) ?_
  rw [stAt_succ s k h1 hk _ h.2]
  unfold stepN
  unfold sgn at hs
  rw [if_neg hn', hs]; rfl
theorem partsAt_cut (s : ByteArray) (k f : Nat) (D : List ByteArray) (hf : f < k) (hk : k ≤ s.size) (h : PartsAt s k f D) (hc : ∀ h : k < s.size, s[k] = 47) : PartsAt s (k + 1) (k + 1) (D ++ [s.extract f k]) := by
  unfold PartsAt at h ⊢
  rw [if_pos hk] at h
  obtain ⟨ha, hb⟩ := h
  by_cases hlt : k < s.size
  · rw [if_pos (by omega), segB_nil]
    have h47 := hc hlt
    rw [spl_step s _ k hlt, if_pos h47] at ha
    refine ⟨?_, ?_⟩
    · rw [List.map_append, List.append_assoc]
      simp only [List.map_cons, List.map_nil, List.singleton_append]
      rw [segB_ext]; exact ha
    · rw [stAt_succ s k (by omega) hlt _ hb, h47]
      simp [stepN, hf]
  · obtain rfl : k = s.size := by omega
    rw [if_neg (by omega)]
    rw [spl_end] at ha
    refine ⟨?_, ?_⟩
    · rw [List.map_append]
      simp only [List.map_cons, List.map_nil]
      rw [segB_ext]; exact ha
    · rw [← stAt_end, hb]; simp [hf]
theorem partsAt_empty (s : ByteArray) (k : Nat) (D : List ByteArray) (h1 : 1 ≤ k) (hk : k ≤ s.size) (h : PartsAt s k k D) (hc : ∀ h : k < s.size, s[k] = 47) : (runP s.data.toList.tail == some true) = false := by
  unfold PartsAt at h
  rw [if_pos hk] at h
  by_cases hlt : k < s.size
  · rw [stAt_bad s (k + 1) (by rw [stAt_succ s k h1 hlt _ h.2, hc hlt]; simp [stepN])]; rfl
  · obtain rfl : k = s.size := by omega
    rw [← stAt_end, h.2]; simp
set_option maxRecDepth 100000 in
set_option maxHeartbeats 4000000 in
theorem parts_any (s : ByteArray) (w : World) (hs : s.size ≤ 9223372036854775807) :
    Calls Tryz.prog 45 #[.string s] w fun e w' => ∃ v, e = .returned (.tuple #[v, .bool (isPath s.data.toList)]) ∧ (isPath s.data.toList = true → ∃ D : List ByteArray, D.map bl = partsL s.data.toList ∧ D.length ≤ 61 ∧ w'.ownsRow w.heap.size 9 1 v D.length (D.flatMap encS)) ∧ Ext w w' := by
  by_cases hr : (s.toList == [47]) = true
  · have hp := hide (path_root s hr)
    have hpl := hide (show partsL s.data.toList = [] by rw [toL, beq_iff_eq] at hr; unfold partsL; rw [if_pos hr])
    go_enter Tryz.func45, Tryz.ntmps45
    go_wp2
    go_ret2
    exact ⟨.slice none 0 0, by rw [hp.out]; rfl, fun _ => ⟨[], by rw [hpl.out]; rfl, by simp, World.ownsRow_nil _ _ _ _⟩, Below.refl _ _⟩
  · have hr : (s.toList == [47]) = false := by simpa using hr
    by_cases h2 : 2 ≤ s.size ∧ s.size ≤ 60
    · obtain ⟨h2, h60⟩ := h2
      have h0 : 0 < s.size := by omega
      have h2z : (2 : Int) ≤ s.size := by omega
      have h60z : (s.size : Int) ≤ 60 := by omega
      by_cases hc : (s[0]'h0).toNat = 47
      · have HP := hide (path_body s hr h2 h60 hc)
        have HPL := hide (show partsL s.data.toList = spl [] (s.data.toList.drop 1) by
          unfold partsL
          rw [if_neg (by rw [toL] at hr; simpa using hr), List.drop_one])
        have hcz : (((s[0]'h0).toNat : Int) != 47) = false := by rw [hc]; rfl
        obtain ⟨i0, hi, hz0, hz1, hz2⟩ := info_partsS Tryz.infoS
        clear hc
        go_enter Tryz.func45, Tryz.ntmps45
        go_wp2_with fail
        go_loopw [4, 5, 6] (fun v fv i wr => ∃ (k f : Nat) (D : List ByteArray), 1 ≤ k ∧ k ≤ s.size + 1 ∧ 1 ≤ f ∧ f ≤ k ∧ i = .int .i64 k ∧ fv = .int .i64 f ∧ PartsAt s k f D ∧ D.length ≤ k ∧ wr.ownsRow w.heap.size 9 1 v D.length (D.flatMap encS) ∧ Ext w wr) (fun _ _ i _ => s.size + 1 - (intOf i).toNat)
        case atStart => exact ⟨1, 1, [], by omega, by omega, by omega, by omega, rfl, rfl, partsAt_one s (by omega), by simp, World.ownsRow_nil _ _ _ _, Below.refl _ _⟩
        case round =>
          obtain ⟨k, f, D, hk1, hk, hf1, hf, rfl, rfl, hpa, hDl, hown, hext⟩ := hrel
          have HPA := hide hpa
          have hsz := hext.size
          clear hpa hcz
          by_cases hle : k ≤ s.size
          · by_cases hin : k < s.size ∧ ∃ h : k < s.size, s[k] ≠ 47
            · obtain ⟨hlt, _, hn47⟩ := hin
              have hnz : (((s[k]'hlt).toNat : Int) != 47) = true := by
                simp
                intro e
                exact hn47 (UInt8.toNat_inj.1 (by rw [show (47 : UInt8).toNat = 47 from rfl]; omega))
              have hpi := partsAt_in s k f D hf hk1 hlt HPA.out hn47
              have hpb := partsAt_bad s k f D hk1 hlt HPA.out hn47
              have hsg := sign_any (s[k]'hlt)
              obtain ⟨t, ht⟩ : ∃ t, sgn (s[k]'hlt) = t := ⟨_, rfl⟩
              simp only [ht] at hpi hpb hsg
              have HPI := hide hpi
              have HPB := hide hpb
              have HSG := hide hsg
              clear hpi hpb hsg ht hn47
              go_wp2_with fail
              refine (HSG.out _).mono ?_
              rintro e w' ⟨rfl, rfl⟩
              cases t with
              | true =>
                have h3 := HPI.out rfl
                have H3 := hide h3
                clear h3
                go_wp2
                go_roundw
                case rel => exact ⟨k + 1, f, D, by omega, by omega, by omega, by omega, by go_num, rfl, H3.out, by omega, hown, hext⟩
                case measure => simp [intOf]; omega
              | false =>
                have h3 := HPB.out rfl
                have h4 : isPath s.data.toList = false := by rw [HP.out, h3]; rfl
                have H4 := hide h4
                clear h3 h4
                go_wp2
                go_ret2
                exact ⟨.slice none 0 0, by rw [H4.out]; rfl, (fun h => by rw [H4.out] at h; cases h), hext⟩
            · have hcut : ∀ h : k < s.size, s[k] = 47 := fun h => Classical.byContradiction fun hne => hin ⟨h, h, hne⟩
              have HCUT := hide hcut
              have hwalk : (∃ h : k < s.size, (((s[k]'h).toNat : Int) != 47) = false) ∨ decide (k < s.size) = false := by
                by_cases h : k < s.size
                · exact .inl ⟨h, by rw [hcut h]; rfl⟩
                · exact .inr (by simp; omega)
              clear hcut hin
              by_cases hfk : f = k
              · subst hfk
                have h4 : isPath s.data.toList = false := by rw [HP.out]; exact partsAt_empty s f D hk1 hle HPA.out HCUT.out
                have H4 := hide h4
                have hff : ((f : Int) == f) = true := by simp
                clear h4
                rcases hwalk with ⟨hlt, hb⟩ | hb
                · go_wp2
                  go_ret2
                  exact ⟨.slice none 0 0, by rw [H4.out]; rfl, (fun h => by rw [H4.out] at h; cases h), hext⟩
                · go_wp2
                  go_ret2
                  exact ⟨.slice none 0 0, by rw [H4.out]; rfl, (fun h => by rw [H4.out] at h; cases h), hext⟩
              · have hfk' : f < k := by omega
                have hff : ((k : Int) == f) = false := by simp; omega
                have hpc := partsAt_cut s k f D hfk' hle HPA.out HCUT.out
                have HPC := hide hpc
                have hfkz : (f : Int) ≤ k := by omega
                have hkz : (k : Int) ≤ s.size := by omega
                have hDl2 : D.length ≤ 60 := by omega
                clear hpc hfk
                rcases hwalk with ⟨hlt, hb⟩ | hb
                all_goals
                  go_wp2_with (at_builtin; refine wpList_append_own _ (by rfl) _ _ 31 (by rfl) w.heap.size 9 i0 (.string ByteArray.empty) 1 16 Tryz.underlying31 hi hz0 hz1 hz2 rfl (by decide) _ D.length _ (by rfl) (hown.alloc _) ⟨wr.heap.size, 0, none⟩ 1 1 [.string (s.extract f k)] (by rfl) (by rfl) (cells_new wr [.string (s.extract f k)] 9) (by simp [Value.oneCell']) (by unfold maxLen; omega) (by omega) (by simp; omega) ?_; intro v2 w2 hown2 hgrow2 _)
                  go_roundw
                  case rel => exact ⟨k + 1, k + 1, D ++ [s.extract f k], by omega, by omega, by omega, by omega, by go_num, by go_num, HPC.out, by simp; omega, by rw [List.length_append, List.flatMap_append]; exact hown2, hext.app hown hgrow2⟩
                  case measure => simp [intOf]; omega
          · obtain rfl : k = s.size + 1 := by omega
            have hpa := HPA.out
            unfold PartsAt at hpa
            rw [if_neg (by omega)] at hpa
            have hfin : isPath s.data.toList = true ∧ D.map bl = partsL s.data.toList := ⟨by rw [HP.out, hpa.2]; rfl, by rw [HPL.out]; exact hpa.1⟩
            have HF := hide hfin
            clear hpa hfin
            go_wp2
            go_ret2
            exact ⟨_, by rw [HF.out.1]; rfl, fun _ => ⟨D, HF.out.2, by omega, hown⟩, hext⟩
      · have HB := hide (path_head s hr h0 hc)
        have hcz : (((s[0]'h0).toNat : Int) != 47) = true := by simp; omega
        clear hc
        go_enter Tryz.func45, Tryz.ntmps45
        go_wp2
        go_ret2
        exact ⟨.slice none 0 0, by rw [HB.out]; rfl, (fun h => by rw [HB.out] at h; cases h), Below.refl _ _⟩
    · have HB := hide (path_size s hr h2)
      by_cases h3 : s.size < 2
      · have h3z : (s.size : Int) < 2 := by omega
        clear h2
        go_enter Tryz.func45, Tryz.ntmps45
        go_wp2
        go_ret2
        exact ⟨.slice none 0 0, by rw [HB.out]; rfl, (fun h => by rw [HB.out] at h; cases h), Below.refl _ _⟩
      · have h3z : ¬ (s.size : Int) < 2 := by omega
        have h4z : (60 : Int) < s.size := by omega
        clear h2 h3
        go_enter Tryz.func45, Tryz.ntmps45
        go_wp2
        go_ret2
        exact ⟨.slice none 0 0, by rw [HB.out]; rfl, (fun h => by rw [HB.out] at h; cases h), Below.refl _ _⟩
end Go.Proofs.YtlaaapfpchnmeaaGreatDoor
