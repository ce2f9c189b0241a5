import Derived.Test.YtmpciohmljpncaaGreatDoorProg
import Derived.ProofKit
import Derived.LaidLaws
namespace Go.Proofs.YtmpciohmljpncaaGreatDoor.topGrows
open Go
set_option maxRecDepth 100000
theorem fine0 : (List.range' 0 64).all (rowFine Tryz.prog) = true := by kernel_rfl
theorem fine64 : (List.range' 64 64).all (rowFine Tryz.prog) = true := by kernel_rfl
theorem fine128 : (List.range' 128 64).all (rowFine Tryz.prog) = true := by kernel_rfl
theorem fine192 : (List.range' 192 64).all (rowFine Tryz.prog) = true := by kernel_rfl
theorem fine256 : (List.range' 256 64).all (rowFine Tryz.prog) = true := by kernel_rfl
theorem fine320 : (List.range' 320 64).all (rowFine Tryz.prog) = true := by kernel_rfl
theorem fine384 : (List.range' 384 64).all (rowFine Tryz.prog) = true := by kernel_rfl
theorem fine448 : (List.range' 448 64).all (rowFine Tryz.prog) = true := by kernel_rfl
theorem fine512 : (List.range' 512 64).all (rowFine Tryz.prog) = true := by kernel_rfl
theorem fine576 : (List.range' 576 64).all (rowFine Tryz.prog) = true := by kernel_rfl
theorem fine640 : (List.range' 640 64).all (rowFine Tryz.prog) = true := by kernel_rfl
theorem fine704 : (List.range' 704 51).all (rowFine Tryz.prog) = true := by kernel_rfl
theorem fine_all : (List.range Tryz.prog.types.size).all (rowFine Tryz.prog) = true := by
 rw [show Tryz.prog.types.size = 755 by kernel_rfl, List.all_eq_true]
 intro t ht
 rw [List.mem_range] at ht
 have k {a b : Nat} (h : (List.range' a b).all (rowFine Tryz.prog) = true) (h1 : a ≤ t) (h2 : t < a + b) : rowFine Tryz.prog t = true := List.all_eq_true.1 h t (List.mem_range'_1.2 ⟨h1, h2⟩)
 by_cases h0 : t < 64
 ·exact k fine0 (by omega) h0
 by_cases h64 : t < 128
 ·exact k fine64 (by omega) h64
 by_cases h128 : t < 192
 ·exact k fine128 (by omega) h128
 by_cases h192 : t < 256
 ·exact k fine192 (by omega) h192
 by_cases h256 : t < 320
 ·exact k fine256 (by omega) h256
 by_cases h320 : t < 384
 ·exact k fine320 (by omega) h320
 by_cases h384 : t < 448
 ·exact k fine384 (by omega) h384
 by_cases h448 : t < 512
 ·exact k fine448 (by omega) h448
 by_cases h512 : t < 576
 ·exact k fine512 (by omega) h512
 by_cases h576 : t < 640
 ·exact k fine576 (by omega) h576
 by_cases h640 : t < 704
 ·exact k fine640 (by omega) h640
 exact k fine704 (by omega) (by omega)
theorem globs_in : Tryz.prog.globals.all (fun g => decide (g.type < Tryz.prog.types.size)) = true := by kernel_rfl
theorem params_in : Tryz.prog.funcs.all (fun f => f.params.all fun t => decide (t < Tryz.prog.types.size)) = true := by
 rw [show Tryz.prog.types.size = 755 by kernel_rfl]
 kernel_rfl
theorem laidOut : laidOutB Tryz.prog = true := by
 unfold laidOutB
 rw [fine_all, globs_in, params_in]
 rfl
end Go.Proofs.YtmpciohmljpncaaGreatDoor.topGrows
