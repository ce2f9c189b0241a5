import Derived.Test.YtmpciohmljpncaaGreatDoorCards
import Derived.Test.YtmpciohmljpncaaGreatDoorTcD
import Derived.SevenTiedAt
import Derived.LaidLaws
namespace Go
theorem layFits_of {P : Program} {w : World} {l : List (String × DataW Unit)} {y : List (Nat × List Value) × List Obj} (h : Lay.layList P w.heap.size l = some y)
  (h1 : decide (y.1.map (·.1)).Nodup = true) (h2 : (y.1.all fun r => Lay.isRow w.heap.toList[r.1]?) = true) : w.layFits P l [] = true := by
 unfold World.layFits
 rw [h]
 simp only [h1, List.all_nil, Bool.and_true, List.contains_nil, Bool.not_false, h2]
theorem layIfaces_of {P : Program} {w w' : World} {l : List (String × DataW Unit)} {y : List (Nat × List Value) × List Obj} (h : Lay.layList P w.heap.size l = some y)
  (h1 : (y.1.all fun r => r.2.all (Lay.okV P w')) = true) (h2 : y.2.all (Lay.okO P w') = true) : w.layIfaces P l w' = true := by
 unfold World.layIfaces
 rw [h]
 simp only [h1, h2, Bool.and_true]
theorem laidAll_of {P : Program} {os : Os} {l : List (String × DataW Unit)} {y : List (Nat × List Value) × List Obj} (h : Lay.layList P (World.holding P os ⟨#[], #[], []⟩).heap.size l = some y) :
  World.laidAll P os l = { World.holding P os ⟨#[], #[], []⟩ with heap := ⟨Lay.setRows (World.holding P os ⟨#[], #[], []⟩).heap.toList y.1 ++ y.2⟩ } := by
 unfold World.laidAll World.layVars
 rw [h]
end Go
namespace Go.Proofs.YtmpciohmljpncaaGreatDoor.topGrows
open Go
set_option maxRecDepth 100000
def listed : List (String × DataW Unit) := Rows.topGrowsRow.laid
theorem readies_eq : (Tryz.prog.funcs.toList.flatMap fun f => (f.body.map readies).getD []) = [] := by kernel_rfl
theorem waiting_eq : waiting Tryz.prog = Array.replicate 10 false := by
 unfold waiting
 rw [readies_eq]
 kernel_rfl
theorem words_eq : (Array.range Tryz.prog.types.size).map (fun t => Value.int .u64 (Int.ofNat t)) = ⟨(List.range 755).map fun t => Value.int .u64 (Int.ofNat t)⟩ := by
 rw [show Tryz.prog.types.size = 755 by kernel_rfl]
 apply Array.ext'
 simp [List.range_eq_range']
theorem size_eq (os : Os) : (World.holding Tryz.prog os ⟨#[], #[], []⟩).heap.size = 15 := by
 unfold World.holding World.settled begin
 rw [waiting_eq]
 kernel_rfl
noncomputable def laidY : List (Nat × List Value) × List Obj := (layListS Tryz.prog 707 15 listed).getD ([], [])
theorem laidY_eq : layListS Tryz.prog 707 15 listed = some laidY := by
 unfold laidY
 cases h : layListS Tryz.prog 707 15 listed with
 | none =>
  have k : (layListS Tryz.prog 707 15 listed).isSome = true := by kernel_rfl
  rw [h] at k
  cases k
 | some y => rfl
theorem lay_eq (os : Os) : Lay.layList Tryz.prog (World.holding Tryz.prog os ⟨#[], #[], []⟩).heap.size listed = some laidY := by
 rw [size_eq os, ← laidY_eq]
 exact layListS_eq find_eq _ _ (by kernel_rfl)
theorem fits_ok (os : Os) : (World.holding Tryz.prog os ⟨#[], #[], []⟩).layFits Tryz.prog listed [] = true := by
 refine layFits_of (lay_eq os) (by kernel_rfl) ?_
 unfold World.holding World.settled begin
 rw [waiting_eq, words_eq]
 kernel_rfl
theorem ifaces_ok (os : Os) : (World.holding Tryz.prog os ⟨#[], #[], []⟩).layIfaces Tryz.prog listed (World.laidAll Tryz.prog os listed) = true := by
 rw [laidAll_of (lay_eq os)]
 refine layIfaces_of (lay_eq os) ?_ ?_
 ·unfold World.holding World.settled begin
  rw [waiting_eq, words_eq]
  kernel_rfl
 ·unfold World.holding World.settled begin
  rw [waiting_eq, words_eq]
  kernel_rfl
theorem zip_ok (os : Os) : (((World.laidAll Tryz.prog os listed).forCall (fun _ _ => 0) ⟨#[], #[.slice none 0 0, .int .i64 0], []⟩).variablesZipB Tryz.prog) = true := by
 rw [laidAll_of (lay_eq os)]
 unfold World.holding World.settled World.variablesZipB begin
 rw [waiting_eq, words_eq]
 kernel_rfl
theorem rest_ok (os : Os) : ((((World.laidAll Tryz.prog os listed).forCall (fun _ _ => 0) ⟨#[], #[.slice none 0 0, .int .i64 0], []⟩).heap.toList.drop Tryz.prog.globals.size).take ((begin Tryz.prog (fun _ _ => 0) default).world.heap.size - Tryz.prog.globals.size) = (begin Tryz.prog (fun _ _ => 0) default).world.heap.toList.drop Tryz.prog.globals.size) := by
 rw [laidAll_of (lay_eq os)]
 unfold World.holding World.settled begin
 rw [waiting_eq, words_eq]
 kernel_rfl
end Go.Proofs.YtmpciohmljpncaaGreatDoor.topGrows
