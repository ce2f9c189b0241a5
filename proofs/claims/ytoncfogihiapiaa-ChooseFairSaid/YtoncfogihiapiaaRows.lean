/-
  No cell of these rows narrows 'for every input' (looked for: loops, veiled, ifaces, maps, wideKeys, modest, calm, conditions, laid).
  DERIVED. THE GIVEN ROWS OF THIS SEAT. 6 by the template 'for every input the law returns true; each argument reads behind the call as it read before'; 0 by the template 'total and deterministic' (their statements: YtoncfogihiapiaaTotals.lean).
  GIVEN WITH THE SEED: the statements are not yours to turn. If you find one false, say at which input.
  Laid BY PROGRAM, IN A SANDBOX (cutbox-rows.mjs): the forced cells as the released guide's own fill.sh prints them over the translation b10b27044ec6e4fb… (all of the seat's roots in one cut). By AI agents, Wed Nov 11 2026. No macro, syntax, notation, axiom, sorry.
-/
import Derived.Test.YtoncfogihiapiaaChecked
import GoSem.Claim
import GoSem.ClaimJoined
import GoSem.ClaimMapViews
import Derived.JoinedTies
import Derived.KernelRfl
namespace Go.Proofs.Ytoncfogihiapiaa
/- THE CELL 'sum', in the pinned program and in every row, IS THE sha256 OF THE DUMP (.gsa) THAT YtoncfogihiapiaaProg.lean LOADS. Nothing in Lean hashes anything: it is a label: what it is worth is what the hold of that sum in a sandbox is worth. -/
noncomputable def Try.pinned : Pinned := { name := "ytoncfogihiapiaa", sum := "b10b27044ec6e4fb6c1ca2f7ff83dd4a7fd2363b93176c858fdab8c77b9bb7d0", checked := Try.checked }
namespace Rows
def none {H : Type} : Left H := { results := [], args := [] }

/-- 'pursebearerlaw12.ChooseLoad': WHATEVER THE INPUT: true; the input reads as it did. -/
def chooseLoadSpec : ChangeSpec := { name := "chooseLoad", fn := fun _ => fun
  | [d1, d2] => { results := [.lit (.bool true)], args := [d1, d2] }
  | _ => none }
def chooseLoadRow : OpenClaim := { program := "ytoncfogihiapiaa", sum := "b10b27044ec6e4fb6c1ca2f7ff83dd4a7fd2363b93176c858fdab8c77b9bb7d0", func := "pursebearer/pursebearerlaw12.ChooseLoad", spec := "chooseLoad", unfollowed := true, recurses := true, apart := false }
def ChooseLoadSaid : Prop := chooseLoadRow.holds Try.pinned (OpenSpec.ofChange chooseLoadSpec)

/-- ITS FALSE NEIGHBOUR: 'it returns false'. Refute it at one input. -/
def chooseLoadWrong : ChangeSpec := { name := "chooseLoad", fn := fun _ => fun
  | [d1, d2] => { results := [.lit (.bool false)], args := [d1, d2] }
  | _ => none }
def ChooseLoadWrongFalsely : Prop := chooseLoadRow.holds Try.pinned (OpenSpec.ofChange chooseLoadWrong)

/-- 'pursebearerlaw12.ChoosePower': WHATEVER THE INPUT: true; the input reads as it did. -/
def choosePowerSpec : ChangeSpec := { name := "choosePower", fn := fun _ => fun
  | [d1, d2, d3, d4] => { results := [.lit (.bool true)], args := [d1, d2, d3, d4] }
  | _ => none }
def choosePowerRow : OpenClaim := { program := "ytoncfogihiapiaa", sum := "b10b27044ec6e4fb6c1ca2f7ff83dd4a7fd2363b93176c858fdab8c77b9bb7d0", func := "pursebearer/pursebearerlaw12.ChoosePower", spec := "choosePower", unfollowed := true, recurses := true, apart := false }
def ChoosePowerSaid : Prop := choosePowerRow.holds Try.pinned (OpenSpec.ofChange choosePowerSpec)

/-- ITS FALSE NEIGHBOUR: 'it returns false'. Refute it at one input. -/
def choosePowerWrong : ChangeSpec := { name := "choosePower", fn := fun _ => fun
  | [d1, d2, d3, d4] => { results := [.lit (.bool false)], args := [d1, d2, d3, d4] }
  | _ => none }
def ChoosePowerWrongFalsely : Prop := choosePowerRow.holds Try.pinned (OpenSpec.ofChange choosePowerWrong)

/-- 'pursebearerlaw12.ChooseIn': WHATEVER THE INPUT: true; the input reads as it did. -/
def chooseInSpec : ChangeSpec := { name := "chooseIn", fn := fun _ => fun
  | [d1, d2, d3, d4, d5] => { results := [.lit (.bool true)], args := [d1, d2, d3, d4, d5] }
  | _ => none }
def chooseInRow : OpenClaim := { program := "ytoncfogihiapiaa", sum := "b10b27044ec6e4fb6c1ca2f7ff83dd4a7fd2363b93176c858fdab8c77b9bb7d0", func := "pursebearer/pursebearerlaw12.ChooseIn", spec := "chooseIn", unfollowed := true, recurses := true, apart := false }
def ChooseInSaid : Prop := chooseInRow.holds Try.pinned (OpenSpec.ofChange chooseInSpec)

/-- ITS FALSE NEIGHBOUR: 'it returns false'. Refute it at one input. -/
def chooseInWrong : ChangeSpec := { name := "chooseIn", fn := fun _ => fun
  | [d1, d2, d3, d4, d5] => { results := [.lit (.bool false)], args := [d1, d2, d3, d4, d5] }
  | _ => none }
def ChooseInWrongFalsely : Prop := chooseInRow.holds Try.pinned (OpenSpec.ofChange chooseInWrong)

/-- 'pursebearerlaw12.ChooseStays': WHATEVER THE INPUT: true; the input reads as it did. -/
def chooseStaysSpec : ChangeSpec := { name := "chooseStays", fn := fun _ => fun
  | [d1, d2, d3, d4, d5] => { results := [.lit (.bool true)], args := [d1, d2, d3, d4, d5] }
  | _ => none }
def chooseStaysRow : OpenClaim := { program := "ytoncfogihiapiaa", sum := "b10b27044ec6e4fb6c1ca2f7ff83dd4a7fd2363b93176c858fdab8c77b9bb7d0", func := "pursebearer/pursebearerlaw12.ChooseStays", spec := "chooseStays", unfollowed := true, recurses := true, apart := false }
def ChooseStaysSaid : Prop := chooseStaysRow.holds Try.pinned (OpenSpec.ofChange chooseStaysSpec)

/-- ITS FALSE NEIGHBOUR: 'it returns false'. Refute it at one input. -/
def chooseStaysWrong : ChangeSpec := { name := "chooseStays", fn := fun _ => fun
  | [d1, d2, d3, d4, d5] => { results := [.lit (.bool false)], args := [d1, d2, d3, d4, d5] }
  | _ => none }
def ChooseStaysWrongFalsely : Prop := chooseStaysRow.holds Try.pinned (OpenSpec.ofChange chooseStaysWrong)

/-- 'pursebearerlaw12.ChooseFair': WHATEVER THE INPUT: true; the input reads as it did. -/
def chooseFairSpec : ChangeSpec := { name := "chooseFair", fn := fun _ => fun
  | [d1, d2, d3, d4] => { results := [.lit (.bool true)], args := [d1, d2, d3, d4] }
  | _ => none }
def chooseFairRow : OpenClaim := { program := "ytoncfogihiapiaa", sum := "b10b27044ec6e4fb6c1ca2f7ff83dd4a7fd2363b93176c858fdab8c77b9bb7d0", func := "pursebearer/pursebearerlaw12.ChooseFair", spec := "chooseFair", unfollowed := true, recurses := true, apart := false }
def ChooseFairSaid : Prop := chooseFairRow.holds Try.pinned (OpenSpec.ofChange chooseFairSpec)

/-- ITS FALSE NEIGHBOUR: 'it returns false'. Refute it at one input. -/
def chooseFairWrong : ChangeSpec := { name := "chooseFair", fn := fun _ => fun
  | [d1, d2, d3, d4] => { results := [.lit (.bool false)], args := [d1, d2, d3, d4] }
  | _ => none }
def ChooseFairWrongFalsely : Prop := chooseFairRow.holds Try.pinned (OpenSpec.ofChange chooseFairWrong)

/-- 'pursebearerlaw12.ChooseRing': WHATEVER THE INPUT: true; the input reads as it did. -/
def chooseRingSpec : ChangeSpec := { name := "chooseRing", fn := fun _ => fun
  | [d1, d2, d3, d4, d5] => { results := [.lit (.bool true)], args := [d1, d2, d3, d4, d5] }
  | _ => none }
def chooseRingRow : OpenClaim := { program := "ytoncfogihiapiaa", sum := "b10b27044ec6e4fb6c1ca2f7ff83dd4a7fd2363b93176c858fdab8c77b9bb7d0", func := "pursebearer/pursebearerlaw12.ChooseRing", spec := "chooseRing", unfollowed := true, recurses := true, apart := false }
def ChooseRingSaid : Prop := chooseRingRow.holds Try.pinned (OpenSpec.ofChange chooseRingSpec)

/-- ITS FALSE NEIGHBOUR: 'it returns false'. Refute it at one input. -/
def chooseRingWrong : ChangeSpec := { name := "chooseRing", fn := fun _ => fun
  | [d1, d2, d3, d4, d5] => { results := [.lit (.bool false)], args := [d1, d2, d3, d4, d5] }
  | _ => none }
def ChooseRingWrongFalsely : Prop := chooseRingRow.holds Try.pinned (OpenSpec.ofChange chooseRingWrong)

/- THE SECOND FORM. 'bulk': how many values and letters a reading holds, each counted each time it is reached (what is shared counts as often as it is met; a slice's spare places count too). A statement '..UptoSaid' is the law's where the arguments, and the package variables that the reading takes, are together of bulk at most 1048576: NARROWER than '..Said'. Prove '..Said' where nothing that the law and all that it calls make is longer than what came in: it says more and counts as full. Else prove '..UptoSaid'. A law counts once. -/
mutual
def uptoBulk {H : Type} : DataW H → Nat
  | .lit (.string bytes) => bytes.length + 1
  | .lit _ => 1
  | .nil => 1
  | .ptr d => uptoBulk d + 1
  | .slice elems spare => uptoBulkAll elems + uptoBulkAll spare + 1
  | .agg parts => uptoBulkAll parts + 1
  | .iface _ d => uptoBulk d + 1
  | .map entries => uptoBulkEntries entries + 1
  | .held _ => 1
def uptoBulkAll {H : Type} : List (DataW H) → Nat
  | [] => 0
  | d :: r => uptoBulk d + uptoBulkAll r
def uptoBulkEntries {H : Type} : List (Lit × DataW H) → Nat
  | [] => 0
  | x :: r => uptoBulkEntry x + uptoBulkEntries r
def uptoBulkEntry {H : Type} : Lit × DataW H → Nat
  | (.string bytes, d) => bytes.length + uptoBulk d + 1
  | (_, d) => uptoBulk d + 1
 end
def uptoSmall : (H : Type) → List (DataW H) → Bool := fun _ ds => decide (uptoBulkAll ds ≤ 1048576)
def OpenSpec.upto (s : _root_.Go.ChangeSpec) : _root_.Go.OpenSpec := { _root_.Go.OpenSpec.ofChange s with cond := some uptoSmall }

/-- 'pursebearerlaw12.ChooseLoad', WHERE WHAT IT READS IS OF BULK AT MOST 1048576: true; the input reads as it did. -/
def chooseLoadUptoRow : OpenClaim := { program := "ytoncfogihiapiaa", sum := "b10b27044ec6e4fb6c1ca2f7ff83dd4a7fd2363b93176c858fdab8c77b9bb7d0", func := "pursebearer/pursebearerlaw12.ChooseLoad", spec := "chooseLoad", unfollowed := true, recurses := true, apart := false, narrowed := true }
def ChooseLoadUptoSaid : Prop := chooseLoadUptoRow.holds Try.pinned (OpenSpec.upto chooseLoadSpec)

/-- 'pursebearerlaw12.ChoosePower', WHERE WHAT IT READS IS OF BULK AT MOST 1048576: true; the input reads as it did. -/
def choosePowerUptoRow : OpenClaim := { program := "ytoncfogihiapiaa", sum := "b10b27044ec6e4fb6c1ca2f7ff83dd4a7fd2363b93176c858fdab8c77b9bb7d0", func := "pursebearer/pursebearerlaw12.ChoosePower", spec := "choosePower", unfollowed := true, recurses := true, apart := false, narrowed := true }
def ChoosePowerUptoSaid : Prop := choosePowerUptoRow.holds Try.pinned (OpenSpec.upto choosePowerSpec)

/-- 'pursebearerlaw12.ChooseIn', WHERE WHAT IT READS IS OF BULK AT MOST 1048576: true; the input reads as it did. -/
def chooseInUptoRow : OpenClaim := { program := "ytoncfogihiapiaa", sum := "b10b27044ec6e4fb6c1ca2f7ff83dd4a7fd2363b93176c858fdab8c77b9bb7d0", func := "pursebearer/pursebearerlaw12.ChooseIn", spec := "chooseIn", unfollowed := true, recurses := true, apart := false, narrowed := true }
def ChooseInUptoSaid : Prop := chooseInUptoRow.holds Try.pinned (OpenSpec.upto chooseInSpec)

/-- 'pursebearerlaw12.ChooseStays', WHERE WHAT IT READS IS OF BULK AT MOST 1048576: true; the input reads as it did. -/
def chooseStaysUptoRow : OpenClaim := { program := "ytoncfogihiapiaa", sum := "b10b27044ec6e4fb6c1ca2f7ff83dd4a7fd2363b93176c858fdab8c77b9bb7d0", func := "pursebearer/pursebearerlaw12.ChooseStays", spec := "chooseStays", unfollowed := true, recurses := true, apart := false, narrowed := true }
def ChooseStaysUptoSaid : Prop := chooseStaysUptoRow.holds Try.pinned (OpenSpec.upto chooseStaysSpec)

/-- 'pursebearerlaw12.ChooseFair', WHERE WHAT IT READS IS OF BULK AT MOST 1048576: true; the input reads as it did. -/
def chooseFairUptoRow : OpenClaim := { program := "ytoncfogihiapiaa", sum := "b10b27044ec6e4fb6c1ca2f7ff83dd4a7fd2363b93176c858fdab8c77b9bb7d0", func := "pursebearer/pursebearerlaw12.ChooseFair", spec := "chooseFair", unfollowed := true, recurses := true, apart := false, narrowed := true }
def ChooseFairUptoSaid : Prop := chooseFairUptoRow.holds Try.pinned (OpenSpec.upto chooseFairSpec)

/-- 'pursebearerlaw12.ChooseRing', WHERE WHAT IT READS IS OF BULK AT MOST 1048576: true; the input reads as it did. -/
def chooseRingUptoRow : OpenClaim := { program := "ytoncfogihiapiaa", sum := "b10b27044ec6e4fb6c1ca2f7ff83dd4a7fd2363b93176c858fdab8c77b9bb7d0", func := "pursebearer/pursebearerlaw12.ChooseRing", spec := "chooseRing", unfollowed := true, recurses := true, apart := false, narrowed := true }
def ChooseRingUptoSaid : Prop := chooseRingUptoRow.holds Try.pinned (OpenSpec.upto chooseRingSpec)

end Rows
end Go.Proofs.Ytoncfogihiapiaa
