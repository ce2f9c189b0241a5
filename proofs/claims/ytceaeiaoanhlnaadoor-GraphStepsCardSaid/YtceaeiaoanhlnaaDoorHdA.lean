import Derived.Test.YtceaeiaoanhlnaaDoorZq
namespace Go.Proofs.YtceaeiaoanhlnaaDoor
open Go.ChangeShapes Go.WideShapes Go.ChangeAt Go.RowKit Go.Lib Go.Shelf
abbrev HeadD := ByteArray × ByteArray
def encH (h : HeadD) : List Value := [.string h.1, .string h.2]
theorem encH_len (h : HeadD) : (encH h).length = 2 := rfl
abbrev Heads := Sl encH 2
theorem heads_at {w : World} {a : Option Addr} {n cap : Nat} {xs : List HeadD} (h : Heads w (.slice a n cap) xs) (i : Nat) (hi : i < xs.length) :
  ∃ b off, a = some ⟨b, off, none⟩ ∧ b < w.heap.size ∧ w.cell? ⟨b, off + i * 2, none⟩ = some (.string xs[i].1) ∧ w.cell? ⟨b, off + i * 2 + 1, none⟩ = some (.string xs[i].2) := by
 obtain ⟨_, a', cap', hv, _, hc⟩ := h
 cases hv
 obtain ⟨b, off, ha, hb, hc⟩ := hc i xs[i] (List.getElem?_eq_getElem hi)
 exact ⟨b, off, ha, hb, by simpa using hc 0 _ rfl, by simpa using hc 1 _ rfl⟩
def nmN (n : Nat) : Bool := (decide (97 ≤ n) && decide (n ≤ 122)) || (decide (48 ≤ n) && decide (n ≤ 57)) || n == 45
def vlN (n : Nat) : Bool := decide (32 ≤ n) && decide (n ≤ 126)
def nmC (c : UInt8) : Bool := nmN c.toNat
def vlC (c : UInt8) : Bool := vlN c.toNat
/-- may a head be? -/
def mayB (n v : List UInt8) : Bool := decide (1 ≤ n.length) && decide (n.length ≤ 20) && decide (v.length ≤ 60) && n.all nmC && v.all vlC
end Go.Proofs.YtceaeiaoanhlnaaDoor
