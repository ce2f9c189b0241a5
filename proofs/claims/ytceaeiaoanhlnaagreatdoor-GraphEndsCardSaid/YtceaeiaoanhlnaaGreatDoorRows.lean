/-
  NARROWER THAN 'FOR EVERY INPUT', by the rows' own cells (each row's printed sentence says how): GraphKids: laid · GraphWalks: laid · GraphAlone: laid · GraphRuns: laid · GraphCircles: laid · GraphEnds: laid.
  DERIVED. THE GIVEN ROWS OF THIS SEAT. 6 by the template 'for every input the law returns true; each argument reads behind the call as it read before'; 0 by the template 'total and deterministic' (their statements: YtceaeiaoanhlnaaGreatDoorTotals.lean).
  GIVEN WITH THE SEED: the statements are not yours to turn. If you find one false, say at which input.
  Laid BY PROGRAM, IN A SANDBOX (cutbox-rows.mjs): the forced cells as the released guide's own fill.sh prints them over the translation 3d71091349ef7a1e… (all of the seat's roots in one cut). By AI agents, Wed Nov 11 2026. No macro, syntax, notation, axiom, sorry.
-/
import Derived.Test.YtceaeiaoanhlnaaGreatDoorChecked
import GoSem.PinnedTables
import GoSem.Claim
import GoSem.ClaimJoined
import GoSem.ClaimMapViews
import Derived.JoinedTies
import Derived.KernelRfl
namespace Go.Proofs.YtceaeiaoanhlnaaGreatDoor
/- THE CELL 'sum', in the pinned program and in every row, IS THE sha256 OF THE DUMP (.gsa) THAT YtceaeiaoanhlnaaGreatDoorProg.lean LOADS. Nothing in Lean hashes anything: it is a label: what it is worth is what the hold of that sum in a sandbox is worth. -/
noncomputable def Tryz.pinned : Pinned := { name := "ytceaeiaoanhlnaagreatdoor", sum := "3d71091349ef7a1e2ba5629ca1dc5fcc7876f54e11d1dc58d41e354be7c0d66d", checked := Tryz.checked }
namespace Rows
def none {H : Type} : Left H := { results := [], args := [] }

/- WHAT THE LISTED PACKAGE-LEVEL VARIABLES READ AS WHEN THE CALL BEGINS. Each datum BY PROGRAM (the guide's laid-datum.mjs) off the statement by which the dump's own 'gosem.cut.vars' lays the variable. In a bare row this is a premise. The card (YtceaeiaoanhlnaaGreatDoorCards.lean) ties it to the program's text. -/
def laid_unicode_utf8_acceptRanges {H : Type} : DataW H := .agg [.agg [.lit (.int .u8 128), .lit (.int .u8 191)], .agg [.lit (.int .u8 160), .lit (.int .u8 191)], .agg [.lit (.int .u8 128), .lit (.int .u8 159)], .agg [.lit (.int .u8 144), .lit (.int .u8 191)], .agg [.lit (.int .u8 128), .lit (.int .u8 143)], .agg [.lit (.int .u8 0), .lit (.int .u8 0)], .agg [.lit (.int .u8 0), .lit (.int .u8 0)], .agg [.lit (.int .u8 0), .lit (.int .u8 0)], .agg [.lit (.int .u8 0), .lit (.int .u8 0)], .agg [.lit (.int .u8 0), .lit (.int .u8 0)], .agg [.lit (.int .u8 0), .lit (.int .u8 0)], .agg [.lit (.int .u8 0), .lit (.int .u8 0)], .agg [.lit (.int .u8 0), .lit (.int .u8 0)], .agg [.lit (.int .u8 0), .lit (.int .u8 0)], .agg [.lit (.int .u8 0), .lit (.int .u8 0)], .agg [.lit (.int .u8 0), .lit (.int .u8 0)]]
/-- One of Go's own tables, pinned by name: the form's constant. -/
def laid_unicode_utf8_first : DataW Unit := Go.Pinned.utf8First

/-- 'pursebearerlaw33.GraphKids': WHATEVER THE INPUT: true; the input reads as it did. -/
def graphKidsSpec : ChangeSpec := { name := "graphKids", fn := fun _ => fun
  | [d1, d2, d3] => { results := [.lit (.bool true)], args := [d1, d2, d3] }
  | _ => none }
def graphKidsRow : OpenClaim := { program := "ytceaeiaoanhlnaagreatdoor", sum := "3d71091349ef7a1e2ba5629ca1dc5fcc7876f54e11d1dc58d41e354be7c0d66d", func := "pursebearer/pursebearerlaw33.GraphKids", spec := "graphKids", inPlace := ["internal/bytealg.CountString", "internal/bytealg.IndexByteString", "internal/bytealg.IndexString"], unfollowed := true, recurses := true, named := ["unicode/utf8.first", "unicode/utf8.acceptRanges", "internal/bytealg.MaxLen", "math/bits.divideError", "math/bits.overflowError"], apart := false, laid := [("unicode/utf8.acceptRanges", laid_unicode_utf8_acceptRanges), ("unicode/utf8.first", laid_unicode_utf8_first)] }
def GraphKidsSaid : Prop := graphKidsRow.holds Tryz.pinned (OpenSpec.ofChange graphKidsSpec)

/-- ITS FALSE NEIGHBOUR: 'it returns false'. Refute it at one input. -/
def graphKidsWrong : ChangeSpec := { name := "graphKids", fn := fun _ => fun
  | [d1, d2, d3] => { results := [.lit (.bool false)], args := [d1, d2, d3] }
  | _ => none }
def GraphKidsWrongFalsely : Prop := graphKidsRow.holds Tryz.pinned (OpenSpec.ofChange graphKidsWrong)

/-- 'pursebearerlaw33.GraphWalks': WHATEVER THE INPUT: true; the input reads as it did. -/
def graphWalksSpec : ChangeSpec := { name := "graphWalks", fn := fun _ => fun
  | [d1, d2, d3, d4, d5] => { results := [.lit (.bool true)], args := [d1, d2, d3, d4, d5] }
  | _ => none }
def graphWalksRow : OpenClaim := { program := "ytceaeiaoanhlnaagreatdoor", sum := "3d71091349ef7a1e2ba5629ca1dc5fcc7876f54e11d1dc58d41e354be7c0d66d", func := "pursebearer/pursebearerlaw33.GraphWalks", spec := "graphWalks", inPlace := ["internal/bytealg.CountString", "internal/bytealg.IndexByteString", "internal/bytealg.IndexString"], unfollowed := true, recurses := true, named := ["unicode/utf8.first", "unicode/utf8.acceptRanges", "internal/bytealg.MaxLen", "math/bits.divideError", "math/bits.overflowError"], apart := false, laid := [("unicode/utf8.acceptRanges", laid_unicode_utf8_acceptRanges), ("unicode/utf8.first", laid_unicode_utf8_first)] }
def GraphWalksSaid : Prop := graphWalksRow.holds Tryz.pinned (OpenSpec.ofChange graphWalksSpec)

/-- ITS FALSE NEIGHBOUR: 'it returns false'. Refute it at one input. -/
def graphWalksWrong : ChangeSpec := { name := "graphWalks", fn := fun _ => fun
  | [d1, d2, d3, d4, d5] => { results := [.lit (.bool false)], args := [d1, d2, d3, d4, d5] }
  | _ => none }
def GraphWalksWrongFalsely : Prop := graphWalksRow.holds Tryz.pinned (OpenSpec.ofChange graphWalksWrong)

/-- 'pursebearerlaw33.GraphAlone': WHATEVER THE INPUT: true; the input reads as it did. -/
def graphAloneSpec : ChangeSpec := { name := "graphAlone", fn := fun _ => fun
  | [d1, d2, d3] => { results := [.lit (.bool true)], args := [d1, d2, d3] }
  | _ => none }
def graphAloneRow : OpenClaim := { program := "ytceaeiaoanhlnaagreatdoor", sum := "3d71091349ef7a1e2ba5629ca1dc5fcc7876f54e11d1dc58d41e354be7c0d66d", func := "pursebearer/pursebearerlaw33.GraphAlone", spec := "graphAlone", inPlace := ["internal/bytealg.CountString", "internal/bytealg.IndexByteString", "internal/bytealg.IndexString"], unfollowed := true, recurses := true, named := ["unicode/utf8.first", "unicode/utf8.acceptRanges", "internal/bytealg.MaxLen", "math/bits.divideError", "math/bits.overflowError"], apart := false, laid := [("unicode/utf8.acceptRanges", laid_unicode_utf8_acceptRanges), ("unicode/utf8.first", laid_unicode_utf8_first)] }
def GraphAloneSaid : Prop := graphAloneRow.holds Tryz.pinned (OpenSpec.ofChange graphAloneSpec)

/-- ITS FALSE NEIGHBOUR: 'it returns false'. Refute it at one input. -/
def graphAloneWrong : ChangeSpec := { name := "graphAlone", fn := fun _ => fun
  | [d1, d2, d3] => { results := [.lit (.bool false)], args := [d1, d2, d3] }
  | _ => none }
def GraphAloneWrongFalsely : Prop := graphAloneRow.holds Tryz.pinned (OpenSpec.ofChange graphAloneWrong)

/-- 'pursebearerlaw33.GraphRuns': WHATEVER THE INPUT: true; the input reads as it did. -/
def graphRunsSpec : ChangeSpec := { name := "graphRuns", fn := fun _ => fun
  | [d1, d2, d3, d4, d5, d6] => { results := [.lit (.bool true)], args := [d1, d2, d3, d4, d5, d6] }
  | _ => none }
def graphRunsRow : OpenClaim := { program := "ytceaeiaoanhlnaagreatdoor", sum := "3d71091349ef7a1e2ba5629ca1dc5fcc7876f54e11d1dc58d41e354be7c0d66d", func := "pursebearer/pursebearerlaw33.GraphRuns", spec := "graphRuns", inPlace := ["internal/bytealg.CountString", "internal/bytealg.IndexByteString", "internal/bytealg.IndexString"], unfollowed := true, recurses := true, named := ["unicode/utf8.first", "unicode/utf8.acceptRanges", "internal/bytealg.MaxLen", "math/bits.divideError", "math/bits.overflowError"], apart := false, laid := [("unicode/utf8.acceptRanges", laid_unicode_utf8_acceptRanges), ("unicode/utf8.first", laid_unicode_utf8_first)] }
def GraphRunsSaid : Prop := graphRunsRow.holds Tryz.pinned (OpenSpec.ofChange graphRunsSpec)

/-- ITS FALSE NEIGHBOUR: 'it returns false'. Refute it at one input. -/
def graphRunsWrong : ChangeSpec := { name := "graphRuns", fn := fun _ => fun
  | [d1, d2, d3, d4, d5, d6] => { results := [.lit (.bool false)], args := [d1, d2, d3, d4, d5, d6] }
  | _ => none }
def GraphRunsWrongFalsely : Prop := graphRunsRow.holds Tryz.pinned (OpenSpec.ofChange graphRunsWrong)

/-- 'pursebearerlaw33.GraphCircles': WHATEVER THE INPUT: true; the input reads as it did. -/
def graphCirclesSpec : ChangeSpec := { name := "graphCircles", fn := fun _ => fun
  | [d1, d2, d3, d4] => { results := [.lit (.bool true)], args := [d1, d2, d3, d4] }
  | _ => none }
def graphCirclesRow : OpenClaim := { program := "ytceaeiaoanhlnaagreatdoor", sum := "3d71091349ef7a1e2ba5629ca1dc5fcc7876f54e11d1dc58d41e354be7c0d66d", func := "pursebearer/pursebearerlaw33.GraphCircles", spec := "graphCircles", inPlace := ["internal/bytealg.CountString", "internal/bytealg.IndexByteString", "internal/bytealg.IndexString"], unfollowed := true, recurses := true, named := ["unicode/utf8.first", "unicode/utf8.acceptRanges", "internal/bytealg.MaxLen", "math/bits.divideError", "math/bits.overflowError"], apart := false, laid := [("unicode/utf8.acceptRanges", laid_unicode_utf8_acceptRanges), ("unicode/utf8.first", laid_unicode_utf8_first)] }
def GraphCirclesSaid : Prop := graphCirclesRow.holds Tryz.pinned (OpenSpec.ofChange graphCirclesSpec)

/-- ITS FALSE NEIGHBOUR: 'it returns false'. Refute it at one input. -/
def graphCirclesWrong : ChangeSpec := { name := "graphCircles", fn := fun _ => fun
  | [d1, d2, d3, d4] => { results := [.lit (.bool false)], args := [d1, d2, d3, d4] }
  | _ => none }
def GraphCirclesWrongFalsely : Prop := graphCirclesRow.holds Tryz.pinned (OpenSpec.ofChange graphCirclesWrong)

/-- 'pursebearerlaw33.GraphEnds': WHATEVER THE INPUT: true; the input reads as it did. -/
def graphEndsSpec : ChangeSpec := { name := "graphEnds", fn := fun _ => fun
  | [d1, d2, d3] => { results := [.lit (.bool true)], args := [d1, d2, d3] }
  | _ => none }
def graphEndsRow : OpenClaim := { program := "ytceaeiaoanhlnaagreatdoor", sum := "3d71091349ef7a1e2ba5629ca1dc5fcc7876f54e11d1dc58d41e354be7c0d66d", func := "pursebearer/pursebearerlaw33.GraphEnds", spec := "graphEnds", inPlace := ["internal/bytealg.CountString", "internal/bytealg.IndexByteString", "internal/bytealg.IndexString"], unfollowed := true, recurses := true, named := ["unicode/utf8.first", "unicode/utf8.acceptRanges", "internal/bytealg.MaxLen", "math/bits.divideError", "math/bits.overflowError"], apart := false, laid := [("unicode/utf8.acceptRanges", laid_unicode_utf8_acceptRanges), ("unicode/utf8.first", laid_unicode_utf8_first)] }
def GraphEndsSaid : Prop := graphEndsRow.holds Tryz.pinned (OpenSpec.ofChange graphEndsSpec)

/-- ITS FALSE NEIGHBOUR: 'it returns false'. Refute it at one input. -/
def graphEndsWrong : ChangeSpec := { name := "graphEnds", fn := fun _ => fun
  | [d1, d2, d3] => { results := [.lit (.bool false)], args := [d1, d2, d3] }
  | _ => none }
def GraphEndsWrongFalsely : Prop := graphEndsRow.holds Tryz.pinned (OpenSpec.ofChange graphEndsWrong)

/- THE SECOND FORM. 'bulk': how many values and letters a reading holds, each counted each time it is reached (what is shared counts as often as it is met; a slice's spare places count too). A statement '..UptoSaid' is the law's where the arguments, and the package variables that the reading takes, are together of bulk at most 1048576: NARROWER than '..Said'. Prove '..Said' where nothing that the law and all that it calls make is longer than what came in: it says more and counts as full. Else prove '..UptoSaid'. A law counts once. -/
mutual
def uptoBulk {H : Type} : DataW H → Nat
  | .lit (.string bytes) => bytes.length + 1
  | .lit _ => 1
  | .nil => 1
  | .ptr d => uptoBulk d + 1
  | .slice elems spare => uptoBulkAll elems + uptoBulkAll spare + 1
  | .agg parts => uptoBulkAll parts + 1
  | .iface _ d => uptoBulk d + 1
  | .map entries => uptoBulkEntries entries + 1
  | .held _ => 1
def uptoBulkAll {H : Type} : List (DataW H) → Nat
  | [] => 0
  | d :: r => uptoBulk d + uptoBulkAll r
def uptoBulkEntries {H : Type} : List (Lit × DataW H) → Nat
  | [] => 0
  | x :: r => uptoBulkEntry x + uptoBulkEntries r
def uptoBulkEntry {H : Type} : Lit × DataW H → Nat
  | (.string bytes, d) => bytes.length + uptoBulk d + 1
  | (_, d) => uptoBulk d + 1
 end
def uptoSmall : (H : Type) → List (DataW H) → Bool := fun _ ds => decide (uptoBulkAll ds ≤ 1048576)
def OpenSpec.upto (s : _root_.Go.ChangeSpec) : _root_.Go.OpenSpec := { _root_.Go.OpenSpec.ofChange s with cond := some uptoSmall }

/-- 'pursebearerlaw33.GraphKids', WHERE WHAT IT READS IS OF BULK AT MOST 1048576: true; the input reads as it did. -/
def graphKidsUptoRow : OpenClaim := { program := "ytceaeiaoanhlnaagreatdoor", sum := "3d71091349ef7a1e2ba5629ca1dc5fcc7876f54e11d1dc58d41e354be7c0d66d", func := "pursebearer/pursebearerlaw33.GraphKids", spec := "graphKids", inPlace := ["internal/bytealg.CountString", "internal/bytealg.IndexByteString", "internal/bytealg.IndexString"], unfollowed := true, recurses := true, named := ["unicode/utf8.first", "unicode/utf8.acceptRanges", "internal/bytealg.MaxLen", "math/bits.divideError", "math/bits.overflowError"], apart := false, laid := [("unicode/utf8.acceptRanges", laid_unicode_utf8_acceptRanges), ("unicode/utf8.first", laid_unicode_utf8_first)], narrowed := true }
def GraphKidsUptoSaid : Prop := graphKidsUptoRow.holds Tryz.pinned (OpenSpec.upto graphKidsSpec)

/-- 'pursebearerlaw33.GraphWalks', WHERE WHAT IT READS IS OF BULK AT MOST 1048576: true; the input reads as it did. -/
def graphWalksUptoRow : OpenClaim := { program := "ytceaeiaoanhlnaagreatdoor", sum := "3d71091349ef7a1e2ba5629ca1dc5fcc7876f54e11d1dc58d41e354be7c0d66d", func := "pursebearer/pursebearerlaw33.GraphWalks", spec := "graphWalks", inPlace := ["internal/bytealg.CountString", "internal/bytealg.IndexByteString", "internal/bytealg.IndexString"], unfollowed := true, recurses := true, named := ["unicode/utf8.first", "unicode/utf8.acceptRanges", "internal/bytealg.MaxLen", "math/bits.divideError", "math/bits.overflowError"], apart := false, laid := [("unicode/utf8.acceptRanges", laid_unicode_utf8_acceptRanges), ("unicode/utf8.first", laid_unicode_utf8_first)], narrowed := true }
def GraphWalksUptoSaid : Prop := graphWalksUptoRow.holds Tryz.pinned (OpenSpec.upto graphWalksSpec)

/-- 'pursebearerlaw33.GraphAlone', WHERE WHAT IT READS IS OF BULK AT MOST 1048576: true; the input reads as it did. -/
def graphAloneUptoRow : OpenClaim := { program := "ytceaeiaoanhlnaagreatdoor", sum := "3d71091349ef7a1e2ba5629ca1dc5fcc7876f54e11d1dc58d41e354be7c0d66d", func := "pursebearer/pursebearerlaw33.GraphAlone", spec := "graphAlone", inPlace := ["internal/bytealg.CountString", "internal/bytealg.IndexByteString", "internal/bytealg.IndexString"], unfollowed := true, recurses := true, named := ["unicode/utf8.first", "unicode/utf8.acceptRanges", "internal/bytealg.MaxLen", "math/bits.divideError", "math/bits.overflowError"], apart := false, laid := [("unicode/utf8.acceptRanges", laid_unicode_utf8_acceptRanges), ("unicode/utf8.first", laid_unicode_utf8_first)], narrowed := true }
def GraphAloneUptoSaid : Prop := graphAloneUptoRow.holds Tryz.pinned (OpenSpec.upto graphAloneSpec)

/-- 'pursebearerlaw33.GraphRuns', WHERE WHAT IT READS IS OF BULK AT MOST 1048576: true; the input reads as it did. -/
def graphRunsUptoRow : OpenClaim := { program := "ytceaeiaoanhlnaagreatdoor", sum := "3d71091349ef7a1e2ba5629ca1dc5fcc7876f54e11d1dc58d41e354be7c0d66d", func := "pursebearer/pursebearerlaw33.GraphRuns", spec := "graphRuns", inPlace := ["internal/bytealg.CountString", "internal/bytealg.IndexByteString", "internal/bytealg.IndexString"], unfollowed := true, recurses := true, named := ["unicode/utf8.first", "unicode/utf8.acceptRanges", "internal/bytealg.MaxLen", "math/bits.divideError", "math/bits.overflowError"], apart := false, laid := [("unicode/utf8.acceptRanges", laid_unicode_utf8_acceptRanges), ("unicode/utf8.first", laid_unicode_utf8_first)], narrowed := true }
def GraphRunsUptoSaid : Prop := graphRunsUptoRow.holds Tryz.pinned (OpenSpec.upto graphRunsSpec)

/-- 'pursebearerlaw33.GraphCircles', WHERE WHAT IT READS IS OF BULK AT MOST 1048576: true; the input reads as it did. -/
def graphCirclesUptoRow : OpenClaim := { program := "ytceaeiaoanhlnaagreatdoor", sum := "3d71091349ef7a1e2ba5629ca1dc5fcc7876f54e11d1dc58d41e354be7c0d66d", func := "pursebearer/pursebearerlaw33.GraphCircles", spec := "graphCircles", inPlace := ["internal/bytealg.CountString", "internal/bytealg.IndexByteString", "internal/bytealg.IndexString"], unfollowed := true, recurses := true, named := ["unicode/utf8.first", "unicode/utf8.acceptRanges", "internal/bytealg.MaxLen", "math/bits.divideError", "math/bits.overflowError"], apart := false, laid := [("unicode/utf8.acceptRanges", laid_unicode_utf8_acceptRanges), ("unicode/utf8.first", laid_unicode_utf8_first)], narrowed := true }
def GraphCirclesUptoSaid : Prop := graphCirclesUptoRow.holds Tryz.pinned (OpenSpec.upto graphCirclesSpec)

/-- 'pursebearerlaw33.GraphEnds', WHERE WHAT IT READS IS OF BULK AT MOST 1048576: true; the input reads as it did. -/
def graphEndsUptoRow : OpenClaim := { program := "ytceaeiaoanhlnaagreatdoor", sum := "3d71091349ef7a1e2ba5629ca1dc5fcc7876f54e11d1dc58d41e354be7c0d66d", func := "pursebearer/pursebearerlaw33.GraphEnds", spec := "graphEnds", inPlace := ["internal/bytealg.CountString", "internal/bytealg.IndexByteString", "internal/bytealg.IndexString"], unfollowed := true, recurses := true, named := ["unicode/utf8.first", "unicode/utf8.acceptRanges", "internal/bytealg.MaxLen", "math/bits.divideError", "math/bits.overflowError"], apart := false, laid := [("unicode/utf8.acceptRanges", laid_unicode_utf8_acceptRanges), ("unicode/utf8.first", laid_unicode_utf8_first)], narrowed := true }
def GraphEndsUptoSaid : Prop := graphEndsUptoRow.holds Tryz.pinned (OpenSpec.upto graphEndsSpec)

end Rows
end Go.Proofs.YtceaeiaoanhlnaaGreatDoor
