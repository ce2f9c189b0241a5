import Derived.Test.YtmpciohmljpncaaGreatDoorProg
import Derived.ProofKit
import Derived.Lay
namespace Go.Proofs.YtmpciohmljpncaaGreatDoor.topGrows
open Go
set_option maxRecDepth 100000
noncomputable def isErr (u : TypeId) : Bool := Tryz.prog.typeName? 3 u == some "*errors.errorString"
theorem other0 : (List.range' 0 64).all (fun u => !isErr u) = true := by kernel_rfl
theorem other64 : (List.range' 64 64).all (fun u => !isErr u) = true := by kernel_rfl
theorem other128 : (List.range' 128 64).all (fun u => !isErr u) = true := by kernel_rfl
theorem other192 : (List.range' 192 64).all (fun u => !isErr u) = true := by kernel_rfl
theorem other256 : (List.range' 256 64).all (fun u => !isErr u) = true := by kernel_rfl
theorem other320 : (List.range' 320 64).all (fun u => !isErr u) = true := by kernel_rfl
theorem other384 : (List.range' 384 64).all (fun u => !isErr u) = true := by kernel_rfl
theorem other448 : (List.range' 448 64).all (fun u => !isErr u) = true := by kernel_rfl
theorem other512 : (List.range' 512 64).all (fun u => !isErr u) = true := by kernel_rfl
theorem other576 : (List.range' 576 64).all (fun u => !isErr u) = true := by kernel_rfl
theorem other640 : (List.range' 640 64).all (fun u => !isErr u) = true := by kernel_rfl
theorem other704 : (List.range' 704 3).all (fun u => !isErr u) = true := by kernel_rfl
theorem isErr_u : isErr 707 = true := by kernel_rfl
theorem others (j : Nat) (h : j < 707) : isErr j = false := by
 have k {a b : Nat} (h : (List.range' a b).all (fun u => !isErr u) = true) (h1 : a ≤ j) (h2 : j < a + b) : isErr j = false := by
  have := List.all_eq_true.1 h j (List.mem_range'_1.2 ⟨h1, h2⟩)
  simpa using this
 by_cases h0 : j < 64
 ·exact k other0 (by omega) h0
 by_cases h64 : j < 128
 ·exact k other64 (by omega) h64
 by_cases h128 : j < 192
 ·exact k other128 (by omega) h128
 by_cases h192 : j < 256
 ·exact k other192 (by omega) h192
 by_cases h256 : j < 320
 ·exact k other256 (by omega) h256
 by_cases h320 : j < 384
 ·exact k other320 (by omega) h320
 by_cases h384 : j < 448
 ·exact k other384 (by omega) h384
 by_cases h448 : j < 512
 ·exact k other448 (by omega) h448
 by_cases h512 : j < 576
 ·exact k other512 (by omega) h512
 by_cases h576 : j < 640
 ·exact k other576 (by omega) h576
 by_cases h640 : j < 704
 ·exact k other640 (by omega) h640
 exact k other704 (by omega) (by omega)
theorem find_eq : ((List.range Tryz.prog.types.size).find? fun u => Tryz.prog.typeName? 3 u == some "*errors.errorString") = some 707 := by
 rw [show Tryz.prog.types.size = 755 by kernel_rfl, List.find?_range_eq_some]
 refine ⟨isErr_u, List.mem_range.2 (by omega), fun j hj => ?_⟩
 have := others j hj
 unfold isErr at this
 rw [this]
 rfl
/-- a datum's laying where the type that an interface value holds is known -/
def layS (P : Program) (U t : TypeId) (n : Nat) : DataW Unit → Option (List Value × List Obj)
 | .iface _ d => match P.underlying t with
  | some (.interface _) => match d.lay P U n with
   | some x => match Lay.pack P U x.1 with
    | some v => some ([.iface U v], x.2)
    | none => none
   | none => none
  | _ => none
 | d => d.lay P t n
def named (s : String) : DataW Unit → Bool
 | .iface name _ => name == s
 | _ => true
theorem layS_eq {P : Program} {U t : TypeId} {n : Nat} {s : String} (h : ((List.range P.types.size).find? fun u => P.typeName? 3 u == some s) = some U) :
  ∀ d, named s d = true → d.lay P t n = layS P U t n d
 | .iface name d, hd => by
  have : name = s := by simpa [named] using hd
  subst this
  unfold DataW.lay layS
  rw [h]
  cases P.underlying t with
  | none => rfl
  | some i =>
   cases i <;> rfl
 | .lit _, _ => rfl
 | .nil, _ => rfl
 | .ptr _, _ => rfl
 | .slice .., _ => rfl
 | .agg _, _ => rfl
 | .map _, _ => rfl
 | .held _, _ => rfl
def layListS (P : Program) (U : TypeId) (n : Nat) : List (String × DataW Unit) → Option (List (Nat × List Value) × List Obj)
 | [] => some ([], [])
 | x :: r => match P.globalNamed x.1 with
  | some g => match P.globals[g]? with
   | some gl => match layS P U gl.type n x.2 with
    | some y => match layListS P U (n + y.2.length) r with
     | some z => some ((g, y.1) :: z.1, y.2 ++ z.2)
     | none => none
    | none => none
   | none => none
  | none => none
theorem layListS_eq {P : Program} {U : TypeId} {s : String} (h : ((List.range P.types.size).find? fun u => P.typeName? 3 u == some s) = some U) :
  ∀ (l : List (String × DataW Unit)) (n : Nat), (l.all fun x => named s x.2) = true → Lay.layList P n l = layListS P U n l
 | [], _, _ => rfl
 | x :: r, n, hl => by
  rw [List.all_cons, Bool.and_eq_true] at hl
  unfold Lay.layList layListS
  cases P.globalNamed x.1 with
  | none => rfl
  | some g =>
   simp only
   cases P.globals[g]? with
   | none => rfl
   | some gl =>
    simp only
    rw [layS_eq h x.2 hl.1]
    cases layS P U gl.type n x.2 with
    | none => rfl
    | some y =>
     simp only
     rw [layListS_eq h r _ hl.2]
     cases layListS P U (n + y.2.length) r <;> rfl
end Go.Proofs.YtmpciohmljpncaaGreatDoor.topGrows
