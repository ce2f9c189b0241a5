
/- ref05.Fits and Cmp. -/
import Derived.Test.YtopejlachgompaaGreatDoorRfA
namespace Go.Proofs.YtopejlachgompaaGreatDoor
open Go.ChangeShapes Go.WideShapes Go.ChangeAt Go.RowKit Go.Lib Go.Shelf
set_option maxRecDepth 100000 in
set_option maxHeartbeats 8000000 in
theorem fits5_any (mp p : ByteArray) (ex : Bool) (L H : List HeadD) (hv l : Value) (w : World) (hs : p.size ≤ 9223372036854775807) (hq : mp.size ≤ 9223372036854775807) (hmp : isPath (bl mp) = true) (hh : Heads w hv L) (hl : Heads w l H) :
  Calls Tryz.prog 44 #[.agg #[.string mp, .bool ex, hv], .string p, l] w fun e w' => e = .returned (.bool (fitsB (bl mp) ex L (bl p) H)) ∧ Ext w w' := by
 obtain ⟨_, a, c, rfl⟩ := hh.shape
 obtain ⟨_, a2, c2, rfl⟩ := hl.shape
 have hx0 : Ext w (w.alloc (.cells #[.string mp, .bool ex, .slice a L.length c] 78)) := (Below.refl _ w).alloc (Nat.le_refl _) _
 have hb0 := heap_alloc_new w (.cells #[.string mp, .bool ex, .slice a L.length c] 78)
 have hon := fun X => on5_any mp p ex (.slice a L.length c) X hs hq hmp ⟨_, _, _, rfl⟩
 have hf : fitsB (bl mp) ex L (bl p) H = (onB (bl mp) ex (bl p) && L.all (askB H)) := rfl
 obtain ⟨t, ht⟩ : ∃ t, onB (bl mp) ex (bl p) = t := ⟨_, rfl⟩
 rw [ht] at hf
 simp only [ht] at hon
 have HF := hide hf
 have HON := hide hon
 have HH := hide hh
 have HL := hide hl
 have HX := hide hx0
 have HB0 := hide hb0
 have hlz := hh.shape.1
 clear hon hf ht hh hl hs hq hmp
 go_enter Tryz.func44, Tryz.ntmps44
 go_upto_region 1 with (fail)
 clear hx0 hb0
 generalize w.alloc (.cells #[.string mp, .bool ex, .slice a L.length c] 78) = W1 at *
 have c0 : W1.cell? ⟨w.heap.size, 0, none⟩ = some (.string mp) := by simp only [World.cell?, HB0.out]; rfl
 have c1 : W1.cell? ⟨w.heap.size, 1, none⟩ = some (.bool ex) := by simp only [World.cell?, HB0.out]; rfl
 have c2' : W1.cell? ⟨w.heap.size, 2, none⟩ = some (.slice a L.length c) := by simp only [World.cell?, HB0.out]; rfl
 go_wp2_with fail
 refine (HON.out _).mono ?_
 rintro e w2 ⟨rfl, E2⟩
 have hlt0 : w.heap.size < W1.heap.size := (Array.getElem?_eq_some_iff.1 HB0.out).1
 have hcx : ∀ X, Ext w2 X → X.cell? ⟨w.heap.size, 2, none⟩ = some (.slice a L.length c) := fun X hX => ((E2.trans hX).cell (p := ⟨w.heap.size, 2, none⟩) hlt0).trans c2'
 have HCX := hide hcx
 have HE2 := hide (HX.out.trans E2)
 clear hcx E2 c0 c1 c2' HON HX HB0
 go_wp2_with fail
 go_loopw [7, 8] (fun v7 v8 wr => ∃ k : Nat, k ≤ L.length ∧ v8 = .int .i64 k ∧ v7 = .bool (t && (L.take k).all (askB H)) ∧ Ext w2 wr) (fun _ i _ => L.length - (intOf i).toNat)
 case atStart => exact ⟨0, by omega, rfl, by simp, Below.refl _ _⟩
 case round =>
  obtain ⟨k, hk, rfl, rfl, hext⟩ := hrel
  have HXT := hide hext
  have d2 := HCX.out _ hext
  by_cases hlt : k < L.length
  ·obtain ⟨b, off, rfl, hbb, hc1, hc2⟩ := heads_at (HH.out.ext (HE2.out.trans hext)) k hlt
   have hsn : (t && (L.take (k + 1)).all (askB H)) = ((t && (L.take k).all (askB H)) && askB H L[k]) := by rw [take_snoc L k hlt, List.all_append]; simp [Bool.and_assoc]
   obtain ⟨⟨x1, x2⟩, hx⟩ : ∃ x, L[k] = x := ⟨_, rfl⟩
   simp only [hx] at hc1 hc2
   rw [hx] at hsn
   have hget := rget_any H x1 (.slice a2 H.length c2) wr (HL.out.ext (HE2.out.trans hext))
   have hask : askB H (x1, x2) = match getH H (bl x1) with
    | some v => bl x2 == [] || bl x2 == bl v
    | none => false := rfl
   obtain ⟨q, hqq⟩ : ∃ q, (t && (L.take k).all (askB H)) = q := ⟨_, rfl⟩
   rw [hqq] at hsn ⊢
   have hltz : (k : Int) < L.length := by omega
   have HGET := hide hget
   have HASK := hide hask
   have HSN := hide hsn
   clear hget hask hsn hqq hx hext
   go_wp2_with fail
   refine HGET.out.mono ?_
   rintro e w7 ⟨rfl, rfl⟩
   cases q with
   | false =>
    have HS2 := hide (show (t && (L.take (k + 1)).all (askB H)) = false by rw [HSN.out]; rfl)
    go_wp2
    go_roundw
    case rel => exact ⟨k + 1, hlt, by go_num, by rw [HS2.out], HXT.out⟩
    case measure => simp [intOf]; omega
   | true =>
    cases hg : getH H (bl x1) with
    | none =>
     have HS2 := hide (show (t && (L.take (k + 1)).all (askB H)) = false by rw [HSN.out, HASK.out, hg]; rfl)
     clear hg
     simp only [Option.getD_none, Option.isSome_none]
     go_wp2
     go_roundw
     case rel => exact ⟨k + 1, hlt, by go_num, by rw [HS2.out], HXT.out⟩
     case measure => simp [intOf]; omega
    | some v =>
     have ha : (t && (L.take (k + 1)).all (askB H)) = (bl x2 == [] || bl x2 == bl v) := by rw [HSN.out, HASK.out, hg]; rfl
     simp only [Option.getD_some, Option.isSome_some]
     clear hg
     by_cases he : bl x2 = []
     ·have h1 : x2.toList.isEmpty = true := by rw [toL]; show (bl x2).isEmpty = true; rw [he]; rfl
      have h2 : (x2.toList == []) = true := by rw [toL]; show (bl x2 == []) = true; rw [he]; rfl
      have HS2 := hide (show (t && (L.take (k + 1)).all (askB H)) = true by rw [ha, he]; rfl)
      clear ha he
      go_wp2
      go_roundw
      case rel => exact ⟨k + 1, hlt, by go_num, by rw [HS2.out], HXT.out⟩
      case measure => simp [intOf]; omega
     ·have h1 : x2.toList.isEmpty = false := by rw [toL]; show (bl x2).isEmpty = false; simpa using he
      have h2 : (x2.toList == []) = false := by rw [toL]; show (bl x2 == []) = false; simpa using he
      have he' : (bl x2 == []) = false := by simpa using he
      rw [he', Bool.false_or] at ha
      obtain ⟨z, hz⟩ : ∃ z, (bl x2 == bl v) = z := ⟨_, rfl⟩
      have h3 : (x2.toList == v.toList) = z := by rw [bl_inj]; exact hz
      rw [hz] at ha
      have HS2 := hide ha
      clear ha he he' hz
      cases z with
      | true =>
       go_wp2
       go_roundw
       case rel => exact ⟨k + 1, hlt, by go_num, by rw [HS2.out], HXT.out⟩
       case measure => simp [intOf]; omega
      | false =>
       go_wp2
       go_roundw
       case rel => exact ⟨k + 1, hlt, by go_num, by rw [HS2.out], HXT.out⟩
       case measure => simp [intOf]; omega
  ·obtain rfl : k = L.length := by omega
   have hr : (t && (L.take L.length).all (askB H)) = fitsB (bl mp) ex L (bl p) H := by rw [HF.out, List.take_length]
   rw [hr]
   clear hr
   go_wp2
   go_ret
   exact ⟨rfl, HE2.out.trans HXT.out⟩
end Go.Proofs.YtopejlachgompaaGreatDoor
