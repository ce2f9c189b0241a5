/-
  No cell of these rows narrows 'for every input' (looked for: loops, veiled, ifaces, maps, wideKeys, modest, calm, conditions, laid).
  DERIVED. THE GIVEN ROWS OF THIS SEAT. 10 by the template 'for every input the law returns true; each argument reads behind the call as it read before'; 0 by the template 'total and deterministic' (their statements: YtfmoiepjbkhjfaaTotals.lean).
  GIVEN WITH THE SEED: the statements are not yours to turn. If you find one false, say at which input.
  Laid BY PROGRAM, IN A SANDBOX (cutbox-rows.mjs): the forced cells as the released guide's own fill.sh prints them over the translation cf597afef75fc8e5… (all of the seat's roots in one cut). By AI agents, Wed Nov 11 2026. No macro, syntax, notation, axiom, sorry.
-/
import Derived.Test.YtfmoiepjbkhjfaaChecked
import GoSem.Claim
import GoSem.ClaimJoined
import GoSem.ClaimMapViews
import Derived.JoinedTies
import Derived.KernelRfl
namespace Go.Proofs.Ytfmoiepjbkhjfaa
/- THE CELL 'sum', in the pinned program and in every row, IS THE sha256 OF THE DUMP (.gsa) THAT YtfmoiepjbkhjfaaProg.lean LOADS. Nothing in Lean hashes anything: it is a label: what it is worth is what the hold of that sum in a sandbox is worth. -/
noncomputable def Try.pinned : Pinned := { name := "ytfmoiepjbkhjfaa", sum := "cf597afef75fc8e55df6147102d24660a576be0781d9c407c68ab1511dcaf774", checked := Try.checked }
namespace Rows
def none {H : Type} : Left H := { results := [], args := [] }

/-- 'pursebearerlaw09.RingLess': WHATEVER THE INPUT: true; the input reads as it did. -/
def ringLessSpec : ChangeSpec := { name := "ringLess", fn := fun _ => fun
  | [d1, d2, d3, d4, d5] => { results := [.lit (.bool true)], args := [d1, d2, d3, d4, d5] }
  | _ => none }
def ringLessRow : OpenClaim := { program := "ytfmoiepjbkhjfaa", sum := "cf597afef75fc8e55df6147102d24660a576be0781d9c407c68ab1511dcaf774", func := "pursebearer/pursebearerlaw09.RingLess", spec := "ringLess", unfollowed := true, recurses := true, apart := false }
def RingLessSaid : Prop := ringLessRow.holds Try.pinned (OpenSpec.ofChange ringLessSpec)

/-- ITS FALSE NEIGHBOUR: 'it returns false'. Refute it at one input. -/
def ringLessWrong : ChangeSpec := { name := "ringLess", fn := fun _ => fun
  | [d1, d2, d3, d4, d5] => { results := [.lit (.bool false)], args := [d1, d2, d3, d4, d5] }
  | _ => none }
def RingLessWrongFalsely : Prop := ringLessRow.holds Try.pinned (OpenSpec.ofChange ringLessWrong)

/-- 'pursebearerlaw09.RingMore': WHATEVER THE INPUT: true; the input reads as it did. -/
def ringMoreSpec : ChangeSpec := { name := "ringMore", fn := fun _ => fun
  | [d1, d2, d3, d4, d5] => { results := [.lit (.bool true)], args := [d1, d2, d3, d4, d5] }
  | _ => none }
def ringMoreRow : OpenClaim := { program := "ytfmoiepjbkhjfaa", sum := "cf597afef75fc8e55df6147102d24660a576be0781d9c407c68ab1511dcaf774", func := "pursebearer/pursebearerlaw09.RingMore", spec := "ringMore", unfollowed := true, recurses := true, apart := false }
def RingMoreSaid : Prop := ringMoreRow.holds Try.pinned (OpenSpec.ofChange ringMoreSpec)

/-- ITS FALSE NEIGHBOUR: 'it returns false'. Refute it at one input. -/
def ringMoreWrong : ChangeSpec := { name := "ringMore", fn := fun _ => fun
  | [d1, d2, d3, d4, d5] => { results := [.lit (.bool false)], args := [d1, d2, d3, d4, d5] }
  | _ => none }
def RingMoreWrongFalsely : Prop := ringMoreRow.holds Try.pinned (OpenSpec.ofChange ringMoreWrong)

/-- 'pursebearerlaw09.RingNames': WHATEVER THE INPUT: true; the input reads as it did. -/
def ringNamesSpec : ChangeSpec := { name := "ringNames", fn := fun _ => fun
  | [d1, d2, d3] => { results := [.lit (.bool true)], args := [d1, d2, d3] }
  | _ => none }
def ringNamesRow : OpenClaim := { program := "ytfmoiepjbkhjfaa", sum := "cf597afef75fc8e55df6147102d24660a576be0781d9c407c68ab1511dcaf774", func := "pursebearer/pursebearerlaw09.RingNames", spec := "ringNames", unfollowed := true, recurses := true, apart := false }
def RingNamesSaid : Prop := ringNamesRow.holds Try.pinned (OpenSpec.ofChange ringNamesSpec)

/-- ITS FALSE NEIGHBOUR: 'it returns false'. Refute it at one input. -/
def ringNamesWrong : ChangeSpec := { name := "ringNames", fn := fun _ => fun
  | [d1, d2, d3] => { results := [.lit (.bool false)], args := [d1, d2, d3] }
  | _ => none }
def RingNamesWrongFalsely : Prop := ringNamesRow.holds Try.pinned (OpenSpec.ofChange ringNamesWrong)

/-- 'pursebearerlaw09.RingOwn': WHATEVER THE INPUT: true; the input reads as it did. -/
def ringOwnSpec : ChangeSpec := { name := "ringOwn", fn := fun _ => fun
  | [d1, d2] => { results := [.lit (.bool true)], args := [d1, d2] }
  | _ => none }
def ringOwnRow : OpenClaim := { program := "ytfmoiepjbkhjfaa", sum := "cf597afef75fc8e55df6147102d24660a576be0781d9c407c68ab1511dcaf774", func := "pursebearer/pursebearerlaw09.RingOwn", spec := "ringOwn", unfollowed := true, recurses := true, apart := false }
def RingOwnSaid : Prop := ringOwnRow.holds Try.pinned (OpenSpec.ofChange ringOwnSpec)

/-- ITS FALSE NEIGHBOUR: 'it returns false'. Refute it at one input. -/
def ringOwnWrong : ChangeSpec := { name := "ringOwn", fn := fun _ => fun
  | [d1, d2] => { results := [.lit (.bool false)], args := [d1, d2] }
  | _ => none }
def RingOwnWrongFalsely : Prop := ringOwnRow.holds Try.pinned (OpenSpec.ofChange ringOwnWrong)

/-- 'pursebearerlaw10.BoundCaps': WHATEVER THE INPUT: true; the input reads as it did. -/
def boundCapsSpec : ChangeSpec := { name := "boundCaps", fn := fun _ => fun
  | [d1, d2, d3] => { results := [.lit (.bool true)], args := [d1, d2, d3] }
  | _ => none }
def boundCapsRow : OpenClaim := { program := "ytfmoiepjbkhjfaa", sum := "cf597afef75fc8e55df6147102d24660a576be0781d9c407c68ab1511dcaf774", func := "pursebearer/pursebearerlaw10.BoundCaps", spec := "boundCaps", unfollowed := true, recurses := true, apart := false }
def BoundCapsSaid : Prop := boundCapsRow.holds Try.pinned (OpenSpec.ofChange boundCapsSpec)

/-- ITS FALSE NEIGHBOUR: 'it returns false'. Refute it at one input. -/
def boundCapsWrong : ChangeSpec := { name := "boundCaps", fn := fun _ => fun
  | [d1, d2, d3] => { results := [.lit (.bool false)], args := [d1, d2, d3] }
  | _ => none }
def BoundCapsWrongFalsely : Prop := boundCapsRow.holds Try.pinned (OpenSpec.ofChange boundCapsWrong)

/-- 'pursebearerlaw10.BoundPicks': WHATEVER THE INPUT: true; the input reads as it did. -/
def boundPicksSpec : ChangeSpec := { name := "boundPicks", fn := fun _ => fun
  | [d1, d2, d3, d4, d5, d6] => { results := [.lit (.bool true)], args := [d1, d2, d3, d4, d5, d6] }
  | _ => none }
def boundPicksRow : OpenClaim := { program := "ytfmoiepjbkhjfaa", sum := "cf597afef75fc8e55df6147102d24660a576be0781d9c407c68ab1511dcaf774", func := "pursebearer/pursebearerlaw10.BoundPicks", spec := "boundPicks", unfollowed := true, recurses := true, apart := false }
def BoundPicksSaid : Prop := boundPicksRow.holds Try.pinned (OpenSpec.ofChange boundPicksSpec)

/-- ITS FALSE NEIGHBOUR: 'it returns false'. Refute it at one input. -/
def boundPicksWrong : ChangeSpec := { name := "boundPicks", fn := fun _ => fun
  | [d1, d2, d3, d4, d5, d6] => { results := [.lit (.bool false)], args := [d1, d2, d3, d4, d5, d6] }
  | _ => none }
def BoundPicksWrongFalsely : Prop := boundPicksRow.holds Try.pinned (OpenSpec.ofChange boundPicksWrong)

/-- 'pursebearerlaw10.BoundPigeon': WHATEVER THE INPUT: true; the input reads as it did. -/
def boundPigeonSpec : ChangeSpec := { name := "boundPigeon", fn := fun _ => fun
  | [d1, d2, d3, d4, d5] => { results := [.lit (.bool true)], args := [d1, d2, d3, d4, d5] }
  | _ => none }
def boundPigeonRow : OpenClaim := { program := "ytfmoiepjbkhjfaa", sum := "cf597afef75fc8e55df6147102d24660a576be0781d9c407c68ab1511dcaf774", func := "pursebearer/pursebearerlaw10.BoundPigeon", spec := "boundPigeon", unfollowed := true, recurses := true, apart := false }
def BoundPigeonSaid : Prop := boundPigeonRow.holds Try.pinned (OpenSpec.ofChange boundPigeonSpec)

/-- ITS FALSE NEIGHBOUR: 'it returns false'. Refute it at one input. -/
def boundPigeonWrong : ChangeSpec := { name := "boundPigeon", fn := fun _ => fun
  | [d1, d2, d3, d4, d5] => { results := [.lit (.bool false)], args := [d1, d2, d3, d4, d5] }
  | _ => none }
def BoundPigeonWrongFalsely : Prop := boundPigeonRow.holds Try.pinned (OpenSpec.ofChange boundPigeonWrong)

/-- 'pursebearerlaw10.BoundMost': WHATEVER THE INPUT: true; the input reads as it did. -/
def boundMostSpec : ChangeSpec := { name := "boundMost", fn := fun _ => fun
  | [d1, d2, d3] => { results := [.lit (.bool true)], args := [d1, d2, d3] }
  | _ => none }
def boundMostRow : OpenClaim := { program := "ytfmoiepjbkhjfaa", sum := "cf597afef75fc8e55df6147102d24660a576be0781d9c407c68ab1511dcaf774", func := "pursebearer/pursebearerlaw10.BoundMost", spec := "boundMost", unfollowed := true, recurses := true, apart := false }
def BoundMostSaid : Prop := boundMostRow.holds Try.pinned (OpenSpec.ofChange boundMostSpec)

/-- ITS FALSE NEIGHBOUR: 'it returns false'. Refute it at one input. -/
def boundMostWrong : ChangeSpec := { name := "boundMost", fn := fun _ => fun
  | [d1, d2, d3] => { results := [.lit (.bool false)], args := [d1, d2, d3] }
  | _ => none }
def BoundMostWrongFalsely : Prop := boundMostRow.holds Try.pinned (OpenSpec.ofChange boundMostWrong)

/-- 'pursebearerlaw10.BoundRing': WHATEVER THE INPUT: true; the input reads as it did. -/
def boundRingSpec : ChangeSpec := { name := "boundRing", fn := fun _ => fun
  | [d1, d2, d3, d4] => { results := [.lit (.bool true)], args := [d1, d2, d3, d4] }
  | _ => none }
def boundRingRow : OpenClaim := { program := "ytfmoiepjbkhjfaa", sum := "cf597afef75fc8e55df6147102d24660a576be0781d9c407c68ab1511dcaf774", func := "pursebearer/pursebearerlaw10.BoundRing", spec := "boundRing", unfollowed := true, recurses := true, apart := false }
def BoundRingSaid : Prop := boundRingRow.holds Try.pinned (OpenSpec.ofChange boundRingSpec)

/-- ITS FALSE NEIGHBOUR: 'it returns false'. Refute it at one input. -/
def boundRingWrong : ChangeSpec := { name := "boundRing", fn := fun _ => fun
  | [d1, d2, d3, d4] => { results := [.lit (.bool false)], args := [d1, d2, d3, d4] }
  | _ => none }
def BoundRingWrongFalsely : Prop := boundRingRow.holds Try.pinned (OpenSpec.ofChange boundRingWrong)

/-- 'pursebearerlaw10.BoundRow': WHATEVER THE INPUT: true; the input reads as it did. -/
def boundRowSpec : ChangeSpec := { name := "boundRow", fn := fun _ => fun
  | [d1, d2, d3, d4, d5] => { results := [.lit (.bool true)], args := [d1, d2, d3, d4, d5] }
  | _ => none }
def boundRowRow : OpenClaim := { program := "ytfmoiepjbkhjfaa", sum := "cf597afef75fc8e55df6147102d24660a576be0781d9c407c68ab1511dcaf774", func := "pursebearer/pursebearerlaw10.BoundRow", spec := "boundRow", unfollowed := true, recurses := true, apart := false }
def BoundRowSaid : Prop := boundRowRow.holds Try.pinned (OpenSpec.ofChange boundRowSpec)

/-- ITS FALSE NEIGHBOUR: 'it returns false'. Refute it at one input. -/
def boundRowWrong : ChangeSpec := { name := "boundRow", fn := fun _ => fun
  | [d1, d2, d3, d4, d5] => { results := [.lit (.bool false)], args := [d1, d2, d3, d4, d5] }
  | _ => none }
def BoundRowWrongFalsely : Prop := boundRowRow.holds Try.pinned (OpenSpec.ofChange boundRowWrong)

/- THE SECOND FORM. 'bulk': how many values and letters a reading holds, each counted each time it is reached (what is shared counts as often as it is met; a slice's spare places count too). A statement '..UptoSaid' is the law's where the arguments, and the package variables that the reading takes, are together of bulk at most 1048576: NARROWER than '..Said'. Prove '..Said' where nothing that the law and all that it calls make is longer than what came in: it says more and counts as full. Else prove '..UptoSaid'. A law counts once. -/
mutual
def uptoBulk {H : Type} : DataW H → Nat
  | .lit (.string bytes) => bytes.length + 1
  | .lit _ => 1
  | .nil => 1
  | .ptr d => uptoBulk d + 1
  | .slice elems spare => uptoBulkAll elems + uptoBulkAll spare + 1
  | .agg parts => uptoBulkAll parts + 1
  | .iface _ d => uptoBulk d + 1
  | .map entries => uptoBulkEntries entries + 1
  | .held _ => 1
def uptoBulkAll {H : Type} : List (DataW H) → Nat
  | [] => 0
  | d :: r => uptoBulk d + uptoBulkAll r
def uptoBulkEntries {H : Type} : List (Lit × DataW H) → Nat
  | [] => 0
  | x :: r => uptoBulkEntry x + uptoBulkEntries r
def uptoBulkEntry {H : Type} : Lit × DataW H → Nat
  | (.string bytes, d) => bytes.length + uptoBulk d + 1
  | (_, d) => uptoBulk d + 1
 end
def uptoSmall : (H : Type) → List (DataW H) → Bool := fun _ ds => decide (uptoBulkAll ds ≤ 1048576)
def OpenSpec.upto (s : _root_.Go.ChangeSpec) : _root_.Go.OpenSpec := { _root_.Go.OpenSpec.ofChange s with cond := some uptoSmall }

/-- 'pursebearerlaw09.RingLess', WHERE WHAT IT READS IS OF BULK AT MOST 1048576: true; the input reads as it did. -/
def ringLessUptoRow : OpenClaim := { program := "ytfmoiepjbkhjfaa", sum := "cf597afef75fc8e55df6147102d24660a576be0781d9c407c68ab1511dcaf774", func := "pursebearer/pursebearerlaw09.RingLess", spec := "ringLess", unfollowed := true, recurses := true, apart := false, narrowed := true }
def RingLessUptoSaid : Prop := ringLessUptoRow.holds Try.pinned (OpenSpec.upto ringLessSpec)

/-- 'pursebearerlaw09.RingMore', WHERE WHAT IT READS IS OF BULK AT MOST 1048576: true; the input reads as it did. -/
def ringMoreUptoRow : OpenClaim := { program := "ytfmoiepjbkhjfaa", sum := "cf597afef75fc8e55df6147102d24660a576be0781d9c407c68ab1511dcaf774", func := "pursebearer/pursebearerlaw09.RingMore", spec := "ringMore", unfollowed := true, recurses := true, apart := false, narrowed := true }
def RingMoreUptoSaid : Prop := ringMoreUptoRow.holds Try.pinned (OpenSpec.upto ringMoreSpec)

/-- 'pursebearerlaw09.RingNames', WHERE WHAT IT READS IS OF BULK AT MOST 1048576: true; the input reads as it did. -/
def ringNamesUptoRow : OpenClaim := { program := "ytfmoiepjbkhjfaa", sum := "cf597afef75fc8e55df6147102d24660a576be0781d9c407c68ab1511dcaf774", func := "pursebearer/pursebearerlaw09.RingNames", spec := "ringNames", unfollowed := true, recurses := true, apart := false, narrowed := true }
def RingNamesUptoSaid : Prop := ringNamesUptoRow.holds Try.pinned (OpenSpec.upto ringNamesSpec)

/-- 'pursebearerlaw09.RingOwn', WHERE WHAT IT READS IS OF BULK AT MOST 1048576: true; the input reads as it did. -/
def ringOwnUptoRow : OpenClaim := { program := "ytfmoiepjbkhjfaa", sum := "cf597afef75fc8e55df6147102d24660a576be0781d9c407c68ab1511dcaf774", func := "pursebearer/pursebearerlaw09.RingOwn", spec := "ringOwn", unfollowed := true, recurses := true, apart := false, narrowed := true }
def RingOwnUptoSaid : Prop := ringOwnUptoRow.holds Try.pinned (OpenSpec.upto ringOwnSpec)

/-- 'pursebearerlaw10.BoundCaps', WHERE WHAT IT READS IS OF BULK AT MOST 1048576: true; the input reads as it did. -/
def boundCapsUptoRow : OpenClaim := { program := "ytfmoiepjbkhjfaa", sum := "cf597afef75fc8e55df6147102d24660a576be0781d9c407c68ab1511dcaf774", func := "pursebearer/pursebearerlaw10.BoundCaps", spec := "boundCaps", unfollowed := true, recurses := true, apart := false, narrowed := true }
def BoundCapsUptoSaid : Prop := boundCapsUptoRow.holds Try.pinned (OpenSpec.upto boundCapsSpec)

/-- 'pursebearerlaw10.BoundPicks', WHERE WHAT IT READS IS OF BULK AT MOST 1048576: true; the input reads as it did. -/
def boundPicksUptoRow : OpenClaim := { program := "ytfmoiepjbkhjfaa", sum := "cf597afef75fc8e55df6147102d24660a576be0781d9c407c68ab1511dcaf774", func := "pursebearer/pursebearerlaw10.BoundPicks", spec := "boundPicks", unfollowed := true, recurses := true, apart := false, narrowed := true }
def BoundPicksUptoSaid : Prop := boundPicksUptoRow.holds Try.pinned (OpenSpec.upto boundPicksSpec)

/-- 'pursebearerlaw10.BoundPigeon', WHERE WHAT IT READS IS OF BULK AT MOST 1048576: true; the input reads as it did. -/
def boundPigeonUptoRow : OpenClaim := { program := "ytfmoiepjbkhjfaa", sum := "cf597afef75fc8e55df6147102d24660a576be0781d9c407c68ab1511dcaf774", func := "pursebearer/pursebearerlaw10.BoundPigeon", spec := "boundPigeon", unfollowed := true, recurses := true, apart := false, narrowed := true }
def BoundPigeonUptoSaid : Prop := boundPigeonUptoRow.holds Try.pinned (OpenSpec.upto boundPigeonSpec)

/-- 'pursebearerlaw10.BoundMost', WHERE WHAT IT READS IS OF BULK AT MOST 1048576: true; the input reads as it did. -/
def boundMostUptoRow : OpenClaim := { program := "ytfmoiepjbkhjfaa", sum := "cf597afef75fc8e55df6147102d24660a576be0781d9c407c68ab1511dcaf774", func := "pursebearer/pursebearerlaw10.BoundMost", spec := "boundMost", unfollowed := true, recurses := true, apart := false, narrowed := true }
def BoundMostUptoSaid : Prop := boundMostUptoRow.holds Try.pinned (OpenSpec.upto boundMostSpec)

/-- 'pursebearerlaw10.BoundRing', WHERE WHAT IT READS IS OF BULK AT MOST 1048576: true; the input reads as it did. -/
def boundRingUptoRow : OpenClaim := { program := "ytfmoiepjbkhjfaa", sum := "cf597afef75fc8e55df6147102d24660a576be0781d9c407c68ab1511dcaf774", func := "pursebearer/pursebearerlaw10.BoundRing", spec := "boundRing", unfollowed := true, recurses := true, apart := false, narrowed := true }
def BoundRingUptoSaid : Prop := boundRingUptoRow.holds Try.pinned (OpenSpec.upto boundRingSpec)

/-- 'pursebearerlaw10.BoundRow', WHERE WHAT IT READS IS OF BULK AT MOST 1048576: true; the input reads as it did. -/
def boundRowUptoRow : OpenClaim := { program := "ytfmoiepjbkhjfaa", sum := "cf597afef75fc8e55df6147102d24660a576be0781d9c407c68ab1511dcaf774", func := "pursebearer/pursebearerlaw10.BoundRow", spec := "boundRow", unfollowed := true, recurses := true, apart := false, narrowed := true }
def BoundRowUptoSaid : Prop := boundRowUptoRow.holds Try.pinned (OpenSpec.upto boundRowSpec)

end Rows
end Go.Proofs.Ytfmoiepjbkhjfaa
