
/- The closure of Table.On. -/
import Derived.StillTailTactics
import Derived.Test.YtlaaapfpchnmeaaGreatDoorRfE
import Derived.Test.YtlaaapfpchnmeaaGreatDoorZl
namespace Go.Proofs.YtlaaapfpchnmeaaGreatDoor
open Go.ChangeShapes Go.WideShapes Go.ChangeAt Go.RowKit Go.Lib Go.Shelf
set_option maxRecDepth 100000 in
set_option maxHeartbeats 4000000 in
theorem onK_any (B b bt bp n : Nat) (Rs : List RuleD) (I : List Int) (p : ByteArray) (w : World) (hT : TabAt B w b Rs I) (hn : n < Rs.length) (hp : p.size ≤ 9223372036854775807) (hm : MaxV w) (ct : w.cell? ⟨bt, 0, none⟩ = some (.pointer (some ⟨b, 0, none⟩))) (cp : w.cell? ⟨bp, 0, none⟩ = some (.string p)) :
    Calls Tryz.prog 28 #[.int .i64 n, .pointer (some ⟨bt, 0, none⟩), .pointer (some ⟨bp, 0, none⟩)] w fun e w' => e = .returned (.bool (!onN Rs (bl p) n)) ∧ Ext w w' := by
  obtain ⟨vr, vi, c0, c1, hR, hi, hb, -⟩ := tab_cells hT
  have hown := hT.2.2
  obtain ⟨hlr, ar, cr, rfl⟩ := hR.shape
  obtain ⟨br, orr, rfl, hbr, hcr⟩ := rules_at hR n hn
  obtain ⟨r, hr⟩ : ∃ r, Rs[n] = r := ⟨_, rfl⟩
  have hro := hown r (by rw [← hr]; exact List.getElem_mem hn)
  rw [hr] at hcr
  have d0 := (Below.refl (w.heap.size) w).cell (p := ⟨br, orr + n * 19, none⟩) hbr |>.trans (hcr 0 _ rfl)
  have d1 := (Below.refl (w.heap.size) w).cell (p := ⟨br, orr + n * 19 + 1, none⟩) hbr |>.trans (hcr 1 _ rfl)
  have d2 := (Below.refl (w.heap.size) w).cell (p := ⟨br, orr + n * 19 + 2, none⟩) hbr |>.trans (hcr 2 _ rfl)
  obtain ⟨ax, cx, hhv⟩ := owns_shape hro.1
  rw [hhv] at d2
  have hat : onB (bl r.path) r.ex (bl p) = onN Rs (bl p) n := by
    unfold onN
    simp [List.getElem?_eq_getElem hn, hr]
  have hf := fun w' (E : Ext w w') => on_any r.path p r.ex r.hv w' hp (hm.ext E) ⟨_, _, _, hhv⟩
  simp only [hat, hhv] at hf
  have HF := hide hf
  have hnz : (n : Int) < Rs.length := by omega
  clear hf hat hcr hro hr hhv hown hR hi hT hm hp
  generalize onN Rs (bl p) n = q at *
  generalize r.path = rp at *
  generalize r.ex = re at *
  go_enter Tryz.func28, Tryz.ntmps28
  go_upto_region 1 with (fail)
  go_still_tail 9, (by kernel_rfl)
  change wpList _ _ _ _ _ w.drew
  have hEd : Ext w w.drew := (Below.refl _ _).drew
  generalize w.drew = w6 at *
  have HED := hide hEd
  clear hEd
  go_wp2_with fail
  refine (HF.out _ HED.out).mono ?_
  rintro e w7 ⟨rfl, E7⟩
  have HE7 := hide (HED.out.trans E7)
  clear E7
  go_wp2
  go_ret
  exact ⟨rfl, HE7.out⟩
end Go.Proofs.YtlaaapfpchnmeaaGreatDoor
