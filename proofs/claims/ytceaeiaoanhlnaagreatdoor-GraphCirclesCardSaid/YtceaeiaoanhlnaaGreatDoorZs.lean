import Derived.Test.YtceaeiaoanhlnaaGreatDoorZa
import Derived.RangeFuncNested
import Derived.RangeFuncBound
import Derived.RangeFuncCalls
import Derived.RangeFuncLeaves
import Derived.RangeFuncBox
import Derived.Shelf.Abstract
import Derived.Shelf.RegionOpen
import Derived.WalkKit
import Derived.OwnWalkIn
import Derived.TacticsInMore
import Derived.LoopNIn
import Derived.LoopIn
import Derived.BigQuiet
import Derived.Deep.QuietTactic

/- What the references' package 1 computes. -/
namespace Go.Proofs.YtceaeiaoanhlnaaGreatDoor
open Go.ChangeShapes Go.WideShapes Go.ChangeAt Go.RowKit
def around (n m : Int) : Int := (if n < 0 then -(n+1) else n) % m
theorem around_bd (n m : Int) (hm : 1 ≤ m) : 0 ≤ around n m ∧ around n m < m := by
 unfold around; exact ⟨Int.emod_nonneg _ (by omega), Int.emod_lt_of_pos _ (by omega)⟩

set_option maxHeartbeats 400000 in
theorem around_any (n m : Int) (w : World) (hn : I64 n) (hm : 1 ≤ m ∧ m ≤ 9223372036854775807) :
  Calls Tryz.prog 10 #[.int .i64 n, .int .i64 m] w fun e w' => e = .returned (.int .i64 (around n m)) ∧ w = w' := by
 unfold I64 at hn
 by_cases h : n < 0
 ·have e1 : (-(n + 1)).tmod m = -(n + 1) % m := Int.tmod_eq_emod_of_nonneg (by omega)
  go_enter Tryz.func10, Tryz.ntmps10
  go_wp2
  go_ret
  exact ⟨ret_int (by rw [around, if_pos h]), rfl⟩
 ·go_enter Tryz.func10, Tryz.ntmps10
  go_wp2
  go_ret
  exact ⟨ret_int (by rw [around, if_neg (by omega)]), rfl⟩
end Go.Proofs.YtceaeiaoanhlnaaGreatDoor

/- The references of layer 6. -/
namespace Go.Proofs.YtceaeiaoanhlnaaGreatDoor.Sp
open Go.ChangeShapes Go.WideShapes Go.ChangeAt Go.RowKit
def sumW (l : List (Int × Int)) : Int := (l.map (·.2)).sum
def madeN (m : List Int) : Int := if 0 < m.length then around (m.getD 0 0) 1000 else 0
def madeAt (m : List Int) (i : Nat) : Int × Int :=
 let w := if i + 1 < m.length then around (m.getD (i+1) 0) 10 else 0
 (1 + (madeN m / 4 + i) % 5, if (i : Int) = madeN m % 4 then 1 + w % 9 else w)
def made (m : List Int) : List (Int × Int) := (List.range (madeN m % 4 + 1).toNat).map (madeAt m)

end Go.Proofs.YtceaeiaoanhlnaaGreatDoor.Sp

/- The references of layer 6: Pick. -/
namespace Go.Proofs.YtceaeiaoanhlnaaGreatDoor.Sp
open Go.ChangeShapes Go.WideShapes Go.ChangeAt Go.RowKit
/-- the part at which a rest falls -/
def pickR : List (Int × Int) → Int → Int
 | [], _ => 0
 | p :: l, r => if r < p.2 then p.1 else pickR l (r - p.2)
def pick (ps : List (Int × Int)) (d : Int) : Int := if sumW ps < 1 then 0 else pickR ps (d % sumW ps)
def Small (ps : List (Int × Int)) : Prop := ∀ p ∈ ps, (0 ≤ p.2 ∧ p.2 ≤ 4611686018427387904) ∧ I64 p.1

end Go.Proofs.YtceaeiaoanhlnaaGreatDoor.Sp

/- split.parts, and the two loops over it: split.Sum, split.Pick. -/
namespace Go.Proofs.YtceaeiaoanhlnaaGreatDoor.Sp
open Go.RowKit Go.Shelf
attribute [local go_sem] Oper.semAt_some

def encS (x : Int × (Int × Int)) : Array Value := #[.int .i64 x.1, .agg #[.int .i64 x.2.1, .int .i64 x.2.2]]
end Go.Proofs.YtceaeiaoanhlnaaGreatDoor.Sp

/- split.Pick. -/
namespace Go.Proofs.YtceaeiaoanhlnaaGreatDoor.Sp
open Go.RowKit Go.Shelf
attribute [local go_sem] Oper.semAt_some

end Go.Proofs.YtceaeiaoanhlnaaGreatDoor.Sp

/- split.Check, split.Each. -/
namespace Go.Proofs.YtceaeiaoanhlnaaGreatDoor.Sp
open Go.ChangeShapes Go.WideShapes Go.ChangeAt Go.RowKit

def checkGo : List (Int × Int) → List Int → Int
 | [], _ => 0
 | p :: l, seen => if p.1 < 1 ∨ 10 < p.1 ∨ p.1 ∈ seen then 13 else if p.2 < 0 ∨ 100 < p.2 then 12 else checkGo l (seen ++ [p.1])
def check (ps : List (Int × Int)) : Int := if checkGo ps [] ≠ 0 then checkGo ps [] else if sumW ps = 0 then 12 else 0
end Go.Proofs.YtceaeiaoanhlnaaGreatDoor.Sp

/- The reference's Check of parts. -/
namespace Go.Proofs.YtceaeiaoanhlnaaGreatDoor.Sp
open Go.ChangeShapes Go.WideShapes Go.ChangeAt Go.RowKit
end Go.Proofs.YtceaeiaoanhlnaaGreatDoor.Sp
