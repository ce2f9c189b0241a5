/- Merged texts (MtC, MtD, RtA, RtB). -/
import Derived.Shelf.Strings.Count
import Derived.Test.YtmpciohmljpncaaGreatDoorZmh
import Derived.Deep.Cut
import Derived.Test.YtmpciohmljpncaaGreatDoorZa
namespace Go.Proofs
open Go.Shelf
def Tryz.lCount_ren : Go.Shelf.Ren := ⟨fun | 138 => 325 | 195 => 398 | 218 => 399 | 143 => 393 | 219 => 459 | 217 => 509 | 225 => 470 | 224 => 469 | 267 => 510 | 266 => 544 | 314 => 545 | n => n, fun | 9 => 9 | 3 => 3 | 4 => 4 | 5 => 5 | 0 => 0 | 46 => 173 | 146 => 704 | 51 => 416 | n => n, fun | 1 => 2 | n => n⟩
theorem Tryz.lCount : Go.Proofs.Lays.n138 Tryz.prog Tryz.lCount_ren := {
  mixed := by kernel_rfl
  f138 := Tryz.func325.trans (congrArg some (by kernel_rfl))
  f143 := Tryz.func393.trans (congrArg some (by kernel_rfl))
  f195 := Tryz.func398.trans (congrArg some (by kernel_rfl))
  f217 := Tryz.func509.trans (congrArg some (by kernel_rfl))
  f218 := Tryz.func399.trans (congrArg some (by kernel_rfl))
  f219 := Tryz.func459.trans (congrArg some (by kernel_rfl))
  f224 := Tryz.func469.trans (congrArg some (by kernel_rfl))
  f225 := Tryz.func470.trans (congrArg some (by kernel_rfl))
  f266 := Tryz.func544.trans (congrArg some (by kernel_rfl))
  f267 := Tryz.func510.trans (congrArg some (by kernel_rfl))
  f314 := Tryz.func545.trans (congrArg some (by kernel_rfl))
  t0 := Tryz.underlying0
  a0 := Tryz.isAgg0
  z0 := Tryz.sizeOf0
  v0 := Tryz.zeroValue0
  t3 := Tryz.underlying3
  a3 := Tryz.isAgg3
  z3 := Tryz.sizeOf3
  v3 := Tryz.zeroValue3
  t4 := Tryz.underlying4
  a4 := Tryz.isAgg4
  z4 := Tryz.sizeOf4
  v4 := Tryz.zeroValue4
  t5 := Tryz.underlying5
  a5 := Tryz.isAgg5
  z5 := Tryz.sizeOf5
  v5 := Tryz.zeroValue5
  t9 := Tryz.underlying9
  a9 := Tryz.isAgg9
  z9 := Tryz.sizeOf9
  v9 := Tryz.zeroValue9
  t46 := Tryz.underlying173
  a46 := Tryz.isAgg173
  z46 := Tryz.sizeOf173
  v46 := Tryz.zeroValue173
  t51 := Tryz.underlying416
  a51 := Tryz.isAgg416
  z51 := Tryz.sizeOf416
  v51 := Tryz.zeroValue416
  t146 := Tryz.underlying704
  a146 := Tryz.isAgg704
  z146 := Tryz.sizeOf704
  v146 := Tryz.zeroValue704
  g1 := by kernel_rfl }
def Tryz.lCmpI_ren : Go.Shelf.Ren := ⟨fun | 122 => 113 | 215 => 184 | n => n, fun | 3 => 3 | 4 => 4 | n => n, fun | n => n⟩
theorem Tryz.lCmpI : Go.Proofs.Lays.n122 Tryz.prog Tryz.lCmpI_ren := {
  mixed := by kernel_rfl
  f122 := Tryz.func113.trans (congrArg some (by kernel_rfl))
  f215 := Tryz.func184.trans (congrArg some (by kernel_rfl))
  t3 := Tryz.underlying3
  a3 := Tryz.isAgg3
  z3 := Tryz.sizeOf3
  v3 := Tryz.zeroValue3
  t4 := Tryz.underlying4
  a4 := Tryz.isAgg4
  z4 := Tryz.sizeOf4
  v4 := Tryz.zeroValue4 }
end Go.Proofs
namespace Go.Proofs.YtmpciohmljpncaaGreatDoor
open Go.ChangeShapes Go.WideShapes Go.ChangeAt Go.RowKit Go.Lib Go.Shelf
end Go.Proofs.YtmpciohmljpncaaGreatDoor
namespace Go.Proofs.YtmpciohmljpncaaGreatDoor
open Go.ChangeShapes Go.WideShapes Go.ChangeAt Go.RowKit Go.Lib Go.Shelf
theorem metK {K : Act → World → Prop} {a b : Act} {w : World} (h : K b w) (e : b = a) : K a w := e ▸ h
/-- a fresh block of cells, that a pointer shows -/
def ArrB (T : TypeId) (W w : World) (v : Value) (c : Array Value) : Prop := ∃ g, v = .pointer (some ⟨g, 0, none⟩) ∧ W.heap.size ≤ g ∧ g < w.heap.size ∧ w.heap[g]? = some (.cells c T)
theorem ArrB.ext {T : TypeId} {W w w' : World} {v : Value} {c : Array Value} (h : ArrB T W w v c) (e : Ext w w') : ArrB T W w' v c := by
 obtain ⟨g, h1, h2, h3, h4⟩ := h
 exact ⟨g, h1, h2, Nat.lt_of_lt_of_le h3 e.size, (e.block g h3).trans h4⟩
theorem ArrB.new {T : TypeId} {W w : World} (c : Array Value) (e : Ext W w) : ArrB T W (w.alloc (.cells c T)) (.pointer (some ⟨w.heap.size, 0, none⟩)) c :=
 ⟨w.heap.size, rfl, e.size, by simp, by show (w.heap.push _)[w.heap.size]? = _; simp⟩
theorem ArrB.cell {T : TypeId} {w : World} {g : Nat} {c : Array Value} (h : w.heap[g]? = some (.cells c T)) (j : Nat) (u : Value) (hu : c[j]? = some u) : w.cell? ⟨g, j, none⟩ = some u := by
 rw [World.cell?]
 simp only [h]
 exact hu
theorem ArrB.frozen {T : TypeId} {w : World} {g : Nat} {c : Array Value} (h : w.heap[g]? = some (.cells c T)) (j : Nat) : w.frozen? ⟨g, j, none⟩ = false := by
 rw [World.frozen?]
 simp [h]
theorem ArrB.set {T : TypeId} {w : World} {g : Nat} {c : Array Value} (h : w.heap[g]? = some (.cells c T)) (j : Nat) (u : Value) : (w.setCell ⟨g, j, none⟩ u).heap[g]? = some (.cells (c.setIfInBounds j u) T) := by
 simp only [World.setCell, Array.getElem?_modify, h]
 simp
end Go.Proofs.YtmpciohmljpncaaGreatDoor
namespace Go.Proofs.YtmpciohmljpncaaGreatDoor
open Go.ChangeShapes Go.WideShapes Go.ChangeAt Go.RowKit Go.Lib Go.Shelf
def outB (low high n : Int) : Bool := decide (n < low) || decide (high < n)
end Go.Proofs.YtmpciohmljpncaaGreatDoor
namespace Go.Proofs.YtmpciohmljpncaaGreatDoor
open Go.ChangeShapes Go.WideShapes Go.ChangeAt Go.RowKit Go.Lib Go.Shelf
structure RuleD where
 path : ByteArray
 ex : Bool
 hv : Value
 H : List HeadD
 pv : Value
 P : List (Int × Int)
 mi : Int
 ab : Int
 de : Int
 ti : Int
 pre : ByteArray
 sv : Value
 S : List HeadD
 dv : Value
 D : List ByteArray
 q0 : Int
 q1 : Int
 q2 : Int
 q3 : Int
 q4 : Int
 q5 : Int
 q6 : Int
 rate : Int
def RuleD.val (r : RuleD) : Value := .agg #[.string r.path, .bool r.ex, r.hv, r.pv, .int .i64 r.mi, .int .i64 r.ab, .int .i64 r.de, .int .i64 r.ti, .string r.pre, r.sv, r.dv, .int .i64 r.q0, .int .i64 r.q1, .int .i64 r.q2, .int .i64 r.q3, .int .i64 r.q4, .int .i64 r.q5, .int .i64 r.q6, .int .i64 r.rate]
def encR (r : RuleD) : List Value := [.string r.path, .bool r.ex, r.hv, r.pv, .int .i64 r.mi, .int .i64 r.ab, .int .i64 r.de, .int .i64 r.ti, .string r.pre, r.sv, r.dv, .int .i64 r.q0, .int .i64 r.q1, .int .i64 r.q2, .int .i64 r.q3, .int .i64 r.q4, .int .i64 r.q5, .int .i64 r.q6, .int .i64 r.rate]
theorem encR_len (r : RuleD) : (encR r).length = 19 := rfl
/-- the rule's slices read as its lists -/
def RuleOk (w : World) (r : RuleD) : Prop := Heads w r.hv r.H ∧ Parts w r.pv r.P ∧ Heads w r.sv r.S ∧ Strs w r.dv r.D
theorem RuleOk.ext {w w' : World} {r : RuleD} (h : RuleOk w r) (e : Ext w w') : RuleOk w' r := ⟨h.1.ext e, h.2.1.ext e, h.2.2.1.ext e, h.2.2.2.ext e⟩
def SzB (s : ByteArray) : Prop := s.size ≤ 9223372036854775807
/-- what no rule breaks -/
def RuleFit (r : RuleD) : Prop := SzB r.path ∧ SzB r.pre ∧ HSz r.H ∧ HSz r.S ∧ (∀ d ∈ r.D, SzB d) ∧ (∀ p ∈ r.P, I64 p.1 ∧ I64 p.2) ∧ r.P.length ≤ 1000000
def dropB (d : ByteArray) : Bool := mayB (bl d) []
def wrchk (pre : ByteArray) (S : List HeadD) (D : List ByteArray) : Int :=
 if bl pre ≠ [] ∧ isPath (bl pre) = false then 10 else if hchk S ≠ 0 then hchk S else if 8 < D.length then 2 else if D.all dropB = true then 0 else 11
end Go.Proofs.YtmpciohmljpncaaGreatDoor
