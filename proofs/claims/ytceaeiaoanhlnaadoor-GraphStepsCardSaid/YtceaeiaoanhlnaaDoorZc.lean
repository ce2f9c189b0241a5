/- Merged texts (RtB). -/
import Derived.Test.YtceaeiaoanhlnaaDoorZb
namespace Go.Proofs.YtceaeiaoanhlnaaDoor
open Go.ChangeShapes Go.WideShapes Go.ChangeAt Go.RowKit Go.Lib Go.Shelf
structure RuleD where
 path : ByteArray
 ex : Bool
 hv : Value
 H : List HeadD
 pv : Value
 P : List (Int × Int)
 mi : Int
 ab : Int
 de : Int
 ti : Int
 pre : ByteArray
 sv : Value
 S : List HeadD
 dv : Value
 D : List ByteArray
 q0 : Int
 q1 : Int
 q2 : Int
 q3 : Int
 q4 : Int
 q5 : Int
 q6 : Int
 rate : Int
def RuleD.val (r : RuleD) : Value := .agg #[.string r.path, .bool r.ex, r.hv, r.pv, .int .i64 r.mi, .int .i64 r.ab, .int .i64 r.de, .int .i64 r.ti, .string r.pre, r.sv, r.dv, .int .i64 r.q0, .int .i64 r.q1, .int .i64 r.q2, .int .i64 r.q3, .int .i64 r.q4, .int .i64 r.q5, .int .i64 r.q6, .int .i64 r.rate]
def encR (r : RuleD) : List Value := [.string r.path, .bool r.ex, r.hv, r.pv, .int .i64 r.mi, .int .i64 r.ab, .int .i64 r.de, .int .i64 r.ti, .string r.pre, r.sv, r.dv, .int .i64 r.q0, .int .i64 r.q1, .int .i64 r.q2, .int .i64 r.q3, .int .i64 r.q4, .int .i64 r.q5, .int .i64 r.q6, .int .i64 r.rate]
theorem encR_len (r : RuleD) : (encR r).length = 19 := rfl
/-- the rule's slices read as its lists -/
def RuleOk (w : World) (r : RuleD) : Prop := Heads w r.hv r.H ∧ Parts w r.pv r.P ∧ Heads w r.sv r.S ∧ Strs w r.dv r.D
theorem RuleOk.ext {w w' : World} {r : RuleD} (h : RuleOk w r) (e : Ext w w') : RuleOk w' r := ⟨h.1.ext e, h.2.1.ext e, h.2.2.1.ext e, h.2.2.2.ext e⟩
def SzB (s : ByteArray) : Prop := s.size ≤ 9223372036854775807
/-- what no rule breaks -/
def RuleFit (r : RuleD) : Prop := SzB r.path ∧ SzB r.pre ∧ HSz r.H ∧ HSz r.S ∧ (∀ d ∈ r.D, SzB d) ∧ (∀ p ∈ r.P, I64 p.1 ∧ I64 p.2) ∧ r.P.length ≤ 1000000
def dropB (d : ByteArray) : Bool := mayB (bl d) []
def wrchk (pre : ByteArray) (S : List HeadD) (D : List ByteArray) : Int :=
 if bl pre ≠ [] ∧ isPath (bl pre) = false then 10 else if hchk S ≠ 0 then hchk S else if 8 < D.length then 2 else if D.all dropB = true then 0 else 11
end Go.Proofs.YtceaeiaoanhlnaaDoor
