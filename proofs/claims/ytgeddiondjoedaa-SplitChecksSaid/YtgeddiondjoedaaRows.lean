/-
  No cell of these rows narrows 'for every input' (looked for: loops, veiled, ifaces, maps, wideKeys, modest, calm, conditions, laid).
  DERIVED. THE GIVEN ROWS OF THIS SEAT. 7 by the template 'for every input the law returns true; each argument reads behind the call as it read before'; 0 by the template 'total and deterministic' (their statements: YtgeddiondjoedaaTotals.lean).
  GIVEN WITH THE SEED: the statements are not yours to turn. If you find one false, say at which input.
  Laid BY PROGRAM, IN A SANDBOX (cutbox-rows.mjs): the forced cells as the released guide's own fill.sh prints them over the translation a3208dff285182c0… (all of the seat's roots in one cut). By AI agents, Wed Nov 11 2026. No macro, syntax, notation, axiom, sorry.
-/
import Derived.Test.YtgeddiondjoedaaChecked
import GoSem.Claim
import GoSem.ClaimJoined
import GoSem.ClaimMapViews
import Derived.JoinedTies
import Derived.KernelRfl
namespace Go.Proofs.Ytgeddiondjoedaa
/- THE CELL 'sum', in the pinned program and in every row, IS THE sha256 OF THE DUMP (.gsa) THAT YtgeddiondjoedaaProg.lean LOADS. Nothing in Lean hashes anything: it is a label: what it is worth is what the hold of that sum in a sandbox is worth. -/
noncomputable def Try.pinned : Pinned := { name := "ytgeddiondjoedaa", sum := "a3208dff285182c08c1372ff072400d36f4510ba57989337a044125dce3280d4", checked := Try.checked }
namespace Rows
def none {H : Type} : Left H := { results := [], args := [] }

/-- 'pursebearerlaw06.SplitChecks': WHATEVER THE INPUT: true; the input reads as it did. -/
def splitChecksSpec : ChangeSpec := { name := "splitChecks", fn := fun _ => fun
  | [d1, d2, d3, d4] => { results := [.lit (.bool true)], args := [d1, d2, d3, d4] }
  | _ => none }
def splitChecksRow : OpenClaim := { program := "ytgeddiondjoedaa", sum := "a3208dff285182c08c1372ff072400d36f4510ba57989337a044125dce3280d4", func := "pursebearer/pursebearerlaw06.SplitChecks", spec := "splitChecks", unfollowed := true, recurses := true, apart := false }
def SplitChecksSaid : Prop := splitChecksRow.holds Try.pinned (OpenSpec.ofChange splitChecksSpec)

/-- ITS FALSE NEIGHBOUR: 'it returns false'. Refute it at one input. -/
def splitChecksWrong : ChangeSpec := { name := "splitChecks", fn := fun _ => fun
  | [d1, d2, d3, d4] => { results := [.lit (.bool false)], args := [d1, d2, d3, d4] }
  | _ => none }
def SplitChecksWrongFalsely : Prop := splitChecksRow.holds Try.pinned (OpenSpec.ofChange splitChecksWrong)

/-- 'pursebearerlaw06.SplitPicks': WHATEVER THE INPUT: true; the input reads as it did. -/
def splitPicksSpec : ChangeSpec := { name := "splitPicks", fn := fun _ => fun
  | [d1, d2] => { results := [.lit (.bool true)], args := [d1, d2] }
  | _ => none }
def splitPicksRow : OpenClaim := { program := "ytgeddiondjoedaa", sum := "a3208dff285182c08c1372ff072400d36f4510ba57989337a044125dce3280d4", func := "pursebearer/pursebearerlaw06.SplitPicks", spec := "splitPicks", unfollowed := true, recurses := true, apart := false }
def SplitPicksSaid : Prop := splitPicksRow.holds Try.pinned (OpenSpec.ofChange splitPicksSpec)

/-- ITS FALSE NEIGHBOUR: 'it returns false'. Refute it at one input. -/
def splitPicksWrong : ChangeSpec := { name := "splitPicks", fn := fun _ => fun
  | [d1, d2] => { results := [.lit (.bool false)], args := [d1, d2] }
  | _ => none }
def SplitPicksWrongFalsely : Prop := splitPicksRow.holds Try.pinned (OpenSpec.ofChange splitPicksWrong)

/-- 'pursebearerlaw06.SplitShares': WHATEVER THE INPUT: true; the input reads as it did. -/
def splitSharesSpec : ChangeSpec := { name := "splitShares", fn := fun _ => fun
  | [d1, d2, d3] => { results := [.lit (.bool true)], args := [d1, d2, d3] }
  | _ => none }
def splitSharesRow : OpenClaim := { program := "ytgeddiondjoedaa", sum := "a3208dff285182c08c1372ff072400d36f4510ba57989337a044125dce3280d4", func := "pursebearer/pursebearerlaw06.SplitShares", spec := "splitShares", unfollowed := true, recurses := true, apart := false }
def SplitSharesSaid : Prop := splitSharesRow.holds Try.pinned (OpenSpec.ofChange splitSharesSpec)

/-- ITS FALSE NEIGHBOUR: 'it returns false'. Refute it at one input. -/
def splitSharesWrong : ChangeSpec := { name := "splitShares", fn := fun _ => fun
  | [d1, d2, d3] => { results := [.lit (.bool false)], args := [d1, d2, d3] }
  | _ => none }
def SplitSharesWrongFalsely : Prop := splitSharesRow.holds Try.pinned (OpenSpec.ofChange splitSharesWrong)

/-- 'pursebearerlaw06.SplitRound': WHATEVER THE INPUT: true; the input reads as it did. -/
def splitRoundSpec : ChangeSpec := { name := "splitRound", fn := fun _ => fun
  | [d1, d2, d3] => { results := [.lit (.bool true)], args := [d1, d2, d3] }
  | _ => none }
def splitRoundRow : OpenClaim := { program := "ytgeddiondjoedaa", sum := "a3208dff285182c08c1372ff072400d36f4510ba57989337a044125dce3280d4", func := "pursebearer/pursebearerlaw06.SplitRound", spec := "splitRound", unfollowed := true, recurses := true, apart := false }
def SplitRoundSaid : Prop := splitRoundRow.holds Try.pinned (OpenSpec.ofChange splitRoundSpec)

/-- ITS FALSE NEIGHBOUR: 'it returns false'. Refute it at one input. -/
def splitRoundWrong : ChangeSpec := { name := "splitRound", fn := fun _ => fun
  | [d1, d2, d3] => { results := [.lit (.bool false)], args := [d1, d2, d3] }
  | _ => none }
def SplitRoundWrongFalsely : Prop := splitRoundRow.holds Try.pinned (OpenSpec.ofChange splitRoundWrong)

/-- 'pursebearerlaw06.SplitRow': WHATEVER THE INPUT: true; the input reads as it did. -/
def splitRowSpec : ChangeSpec := { name := "splitRow", fn := fun _ => fun
  | [d1, d2] => { results := [.lit (.bool true)], args := [d1, d2] }
  | _ => none }
def splitRowRow : OpenClaim := { program := "ytgeddiondjoedaa", sum := "a3208dff285182c08c1372ff072400d36f4510ba57989337a044125dce3280d4", func := "pursebearer/pursebearerlaw06.SplitRow", spec := "splitRow", unfollowed := true, recurses := true, apart := false }
def SplitRowSaid : Prop := splitRowRow.holds Try.pinned (OpenSpec.ofChange splitRowSpec)

/-- ITS FALSE NEIGHBOUR: 'it returns false'. Refute it at one input. -/
def splitRowWrong : ChangeSpec := { name := "splitRow", fn := fun _ => fun
  | [d1, d2] => { results := [.lit (.bool false)], args := [d1, d2] }
  | _ => none }
def SplitRowWrongFalsely : Prop := splitRowRow.holds Try.pinned (OpenSpec.ofChange splitRowWrong)

/-- 'pursebearerlaw06.SplitScale': WHATEVER THE INPUT: true; the input reads as it did. -/
def splitScaleSpec : ChangeSpec := { name := "splitScale", fn := fun _ => fun
  | [d1, d2] => { results := [.lit (.bool true)], args := [d1, d2] }
  | _ => none }
def splitScaleRow : OpenClaim := { program := "ytgeddiondjoedaa", sum := "a3208dff285182c08c1372ff072400d36f4510ba57989337a044125dce3280d4", func := "pursebearer/pursebearerlaw06.SplitScale", spec := "splitScale", unfollowed := true, recurses := true, apart := false }
def SplitScaleSaid : Prop := splitScaleRow.holds Try.pinned (OpenSpec.ofChange splitScaleSpec)

/-- ITS FALSE NEIGHBOUR: 'it returns false'. Refute it at one input. -/
def splitScaleWrong : ChangeSpec := { name := "splitScale", fn := fun _ => fun
  | [d1, d2] => { results := [.lit (.bool false)], args := [d1, d2] }
  | _ => none }
def SplitScaleWrongFalsely : Prop := splitScaleRow.holds Try.pinned (OpenSpec.ofChange splitScaleWrong)

/-- 'pursebearerlaw06.SplitEach': WHATEVER THE INPUT: true; the input reads as it did. -/
def splitEachSpec : ChangeSpec := { name := "splitEach", fn := fun _ => fun
  | [d1, d2, d3] => { results := [.lit (.bool true)], args := [d1, d2, d3] }
  | _ => none }
def splitEachRow : OpenClaim := { program := "ytgeddiondjoedaa", sum := "a3208dff285182c08c1372ff072400d36f4510ba57989337a044125dce3280d4", func := "pursebearer/pursebearerlaw06.SplitEach", spec := "splitEach", unfollowed := true, recurses := true, apart := false }
def SplitEachSaid : Prop := splitEachRow.holds Try.pinned (OpenSpec.ofChange splitEachSpec)

/-- ITS FALSE NEIGHBOUR: 'it returns false'. Refute it at one input. -/
def splitEachWrong : ChangeSpec := { name := "splitEach", fn := fun _ => fun
  | [d1, d2, d3] => { results := [.lit (.bool false)], args := [d1, d2, d3] }
  | _ => none }
def SplitEachWrongFalsely : Prop := splitEachRow.holds Try.pinned (OpenSpec.ofChange splitEachWrong)

/- THE SECOND FORM. 'bulk': how many values and letters a reading holds, each counted each time it is reached (what is shared counts as often as it is met; a slice's spare places count too). A statement '..UptoSaid' is the law's where the arguments, and the package variables that the reading takes, are together of bulk at most 1048576: NARROWER than '..Said'. Prove '..Said' where nothing that the law and all that it calls make is longer than what came in: it says more and counts as full. Else prove '..UptoSaid'. A law counts once. -/
mutual
def uptoBulk {H : Type} : DataW H → Nat
  | .lit (.string bytes) => bytes.length + 1
  | .lit _ => 1
  | .nil => 1
  | .ptr d => uptoBulk d + 1
  | .slice elems spare => uptoBulkAll elems + uptoBulkAll spare + 1
  | .agg parts => uptoBulkAll parts + 1
  | .iface _ d => uptoBulk d + 1
  | .map entries => uptoBulkEntries entries + 1
  | .held _ => 1
def uptoBulkAll {H : Type} : List (DataW H) → Nat
  | [] => 0
  | d :: r => uptoBulk d + uptoBulkAll r
def uptoBulkEntries {H : Type} : List (Lit × DataW H) → Nat
  | [] => 0
  | x :: r => uptoBulkEntry x + uptoBulkEntries r
def uptoBulkEntry {H : Type} : Lit × DataW H → Nat
  | (.string bytes, d) => bytes.length + uptoBulk d + 1
  | (_, d) => uptoBulk d + 1
 end
def uptoSmall : (H : Type) → List (DataW H) → Bool := fun _ ds => decide (uptoBulkAll ds ≤ 1048576)
def OpenSpec.upto (s : _root_.Go.ChangeSpec) : _root_.Go.OpenSpec := { _root_.Go.OpenSpec.ofChange s with cond := some uptoSmall }

/-- 'pursebearerlaw06.SplitChecks', WHERE WHAT IT READS IS OF BULK AT MOST 1048576: true; the input reads as it did. -/
def splitChecksUptoRow : OpenClaim := { program := "ytgeddiondjoedaa", sum := "a3208dff285182c08c1372ff072400d36f4510ba57989337a044125dce3280d4", func := "pursebearer/pursebearerlaw06.SplitChecks", spec := "splitChecks", unfollowed := true, recurses := true, apart := false, narrowed := true }
def SplitChecksUptoSaid : Prop := splitChecksUptoRow.holds Try.pinned (OpenSpec.upto splitChecksSpec)

/-- 'pursebearerlaw06.SplitPicks', WHERE WHAT IT READS IS OF BULK AT MOST 1048576: true; the input reads as it did. -/
def splitPicksUptoRow : OpenClaim := { program := "ytgeddiondjoedaa", sum := "a3208dff285182c08c1372ff072400d36f4510ba57989337a044125dce3280d4", func := "pursebearer/pursebearerlaw06.SplitPicks", spec := "splitPicks", unfollowed := true, recurses := true, apart := false, narrowed := true }
def SplitPicksUptoSaid : Prop := splitPicksUptoRow.holds Try.pinned (OpenSpec.upto splitPicksSpec)

/-- 'pursebearerlaw06.SplitShares', WHERE WHAT IT READS IS OF BULK AT MOST 1048576: true; the input reads as it did. -/
def splitSharesUptoRow : OpenClaim := { program := "ytgeddiondjoedaa", sum := "a3208dff285182c08c1372ff072400d36f4510ba57989337a044125dce3280d4", func := "pursebearer/pursebearerlaw06.SplitShares", spec := "splitShares", unfollowed := true, recurses := true, apart := false, narrowed := true }
def SplitSharesUptoSaid : Prop := splitSharesUptoRow.holds Try.pinned (OpenSpec.upto splitSharesSpec)

/-- 'pursebearerlaw06.SplitRound', WHERE WHAT IT READS IS OF BULK AT MOST 1048576: true; the input reads as it did. -/
def splitRoundUptoRow : OpenClaim := { program := "ytgeddiondjoedaa", sum := "a3208dff285182c08c1372ff072400d36f4510ba57989337a044125dce3280d4", func := "pursebearer/pursebearerlaw06.SplitRound", spec := "splitRound", unfollowed := true, recurses := true, apart := false, narrowed := true }
def SplitRoundUptoSaid : Prop := splitRoundUptoRow.holds Try.pinned (OpenSpec.upto splitRoundSpec)

/-- 'pursebearerlaw06.SplitRow', WHERE WHAT IT READS IS OF BULK AT MOST 1048576: true; the input reads as it did. -/
def splitRowUptoRow : OpenClaim := { program := "ytgeddiondjoedaa", sum := "a3208dff285182c08c1372ff072400d36f4510ba57989337a044125dce3280d4", func := "pursebearer/pursebearerlaw06.SplitRow", spec := "splitRow", unfollowed := true, recurses := true, apart := false, narrowed := true }
def SplitRowUptoSaid : Prop := splitRowUptoRow.holds Try.pinned (OpenSpec.upto splitRowSpec)

/-- 'pursebearerlaw06.SplitScale', WHERE WHAT IT READS IS OF BULK AT MOST 1048576: true; the input reads as it did. -/
def splitScaleUptoRow : OpenClaim := { program := "ytgeddiondjoedaa", sum := "a3208dff285182c08c1372ff072400d36f4510ba57989337a044125dce3280d4", func := "pursebearer/pursebearerlaw06.SplitScale", spec := "splitScale", unfollowed := true, recurses := true, apart := false, narrowed := true }
def SplitScaleUptoSaid : Prop := splitScaleUptoRow.holds Try.pinned (OpenSpec.upto splitScaleSpec)

/-- 'pursebearerlaw06.SplitEach', WHERE WHAT IT READS IS OF BULK AT MOST 1048576: true; the input reads as it did. -/
def splitEachUptoRow : OpenClaim := { program := "ytgeddiondjoedaa", sum := "a3208dff285182c08c1372ff072400d36f4510ba57989337a044125dce3280d4", func := "pursebearer/pursebearerlaw06.SplitEach", spec := "splitEach", unfollowed := true, recurses := true, apart := false, narrowed := true }
def SplitEachUptoSaid : Prop := splitEachUptoRow.holds Try.pinned (OpenSpec.upto splitEachSpec)

end Rows
end Go.Proofs.Ytgeddiondjoedaa
