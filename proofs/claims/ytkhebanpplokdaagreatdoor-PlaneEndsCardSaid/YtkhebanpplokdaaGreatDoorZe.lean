/- Merged texts (GnA, GnB). -/
import Derived.Test.YtkhebanpplokdaaGreatDoorZb
import Derived.Test.YtkhebanpplokdaaGreatDoorZs
import Derived.Test.YtkhebanpplokdaaGreatDoorZr
namespace Go.Proofs.YtkhebanpplokdaaGreatDoor
open Go.ChangeShapes Go.WideShapes Go.ChangeAt Go.RowKit Go.Lib Go.Shelf
def nameP (d : Nat) : List UInt8 := if d = 0 then [97] else if d = 1 then [98] else if d = 2 then [99] else [97, 98]
def pathGo : Nat → Nat → List UInt8 → List UInt8
 | 0, _, s => s
 | i + 1, k, s => pathGo i (k / 4) (s ++ [47] ++ nameP (k / 4 % 4))
def arN (n m : Int) : Nat := (around n m).toNat
def pathN (k : Nat) : List UInt8 := if k % 4 = 0 then [47] else pathGo (k % 4) k []
end Go.Proofs.YtkhebanpplokdaaGreatDoor
namespace Go.Proofs.YtkhebanpplokdaaGreatDoor
open Go.ChangeShapes Go.WideShapes Go.ChangeAt Go.RowKit Go.Lib Go.Shelf
def nmM (d : Nat) : ByteArray := if d = 0 then ⟨#[97]⟩ else if d = 1 then ⟨#[98]⟩ else ⟨#[122]⟩
def vlM (d : Nat) : ByteArray := if d = 0 then ⟨#[]⟩ else if d = 1 then ⟨#[49]⟩ else ⟨#[50]⟩
theorem frame74 (x : Nat → Value) : frameOf 74 x = #[x 0, x 1, x 2, x 3, x 4, x 5, x 6, x 7, x 8, x 9, x 10, x 11, x 12, x 13, x 14, x 15, x 16, x 17, x 18, x 19, x 20, x 21, x 22, x 23, x 24, x 25, x 26, x 27, x 28, x 29, x 30, x 31, x 32, x 33, x 34, x 35, x 36, x 37, x 38, x 39, x 40, x 41, x 42, x 43, x 44, x 45, x 46, x 47, x 48, x 49, x 50, x 51, x 52, x 53, x 54, x 55, x 56, x 57, x 58, x 59, x 60, x 61, x 62, x 63, x 64, x 65, x 66, x 67, x 68, x 69, x 70, x 71, x 72, x 73] := rfl
def hdM (i k : Nat) : HeadD := (nmM (i * k / 3 % 3), vlM (k / 9 % 3))
def stepM (H : List HeadD) (i k : Nat) : List HeadD := if k % 3 = 0 then (if (getH H (bl (hdM i k).1)).isSome = true then H else H ++ [hdM i k]) else H
def matchH (k1 k2 : Int) : List HeadD := stepM (stepM [] 1 (arN k1 1000)) 2 (arN k2 1000)
end Go.Proofs.YtkhebanpplokdaaGreatDoor
