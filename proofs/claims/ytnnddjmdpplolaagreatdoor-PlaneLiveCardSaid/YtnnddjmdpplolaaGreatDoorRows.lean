/-
  NARROWER THAN 'FOR EVERY INPUT', by the rows' own cells (each row's printed sentence says how): PlaneRow: laid · PlaneSnap: laid · PlaneLive: laid · PlaneEnds: laid.
  DERIVED. THE GIVEN ROWS OF THIS SEAT. 4 by the template 'for every input the law returns true; each argument reads behind the call as it read before'; 0 by the template 'total and deterministic' (their statements: YtnnddjmdpplolaaGreatDoorTotals.lean).
  GIVEN WITH THE SEED: the statements are not yours to turn. If you find one false, say at which input.
  Laid BY PROGRAM, IN A SANDBOX (cutbox-rows.mjs): the forced cells as the released guide's own fill.sh prints them over the translation 6617720e0b6a00e3… (all of the seat's roots in one cut). By AI agents, Wed Nov 11 2026. No macro, syntax, notation, axiom, sorry.
-/
import Derived.Test.YtnnddjmdpplolaaGreatDoorChecked
import GoSem.PinnedTables
import GoSem.Claim
import GoSem.ClaimJoined
import GoSem.ClaimMapViews
import Derived.JoinedTies
import Derived.KernelRfl
namespace Go.Proofs.YtnnddjmdpplolaaGreatDoor
/- THE CELL 'sum', in the pinned program and in every row, IS THE sha256 OF THE DUMP (.gsa) THAT YtnnddjmdpplolaaGreatDoorProg.lean LOADS. Nothing in Lean hashes anything: it is a label: what it is worth is what the hold of that sum in a sandbox is worth. -/
noncomputable def Tryz.pinned : Pinned := { name := "ytnnddjmdpplolaagreatdoor", sum := "6617720e0b6a00e373c0da87e0e263994c00cf57c9f05fb97a6a4d0cf2664e33", checked := Tryz.checked }
namespace Rows
def none {H : Type} : Left H := { results := [], args := [] }

/- WHAT THE LISTED PACKAGE-LEVEL VARIABLES READ AS WHEN THE CALL BEGINS. Each datum BY PROGRAM (the guide's laid-datum.mjs) off the statement by which the dump's own 'gosem.cut.vars' lays the variable. In a bare row this is a premise. The card (YtnnddjmdpplolaaGreatDoorCards.lean) ties it to the program's text. -/
def laid_unicode_utf8_acceptRanges {H : Type} : DataW H := .agg [.agg [.lit (.int .u8 128), .lit (.int .u8 191)], .agg [.lit (.int .u8 160), .lit (.int .u8 191)], .agg [.lit (.int .u8 128), .lit (.int .u8 159)], .agg [.lit (.int .u8 144), .lit (.int .u8 191)], .agg [.lit (.int .u8 128), .lit (.int .u8 143)], .agg [.lit (.int .u8 0), .lit (.int .u8 0)], .agg [.lit (.int .u8 0), .lit (.int .u8 0)], .agg [.lit (.int .u8 0), .lit (.int .u8 0)], .agg [.lit (.int .u8 0), .lit (.int .u8 0)], .agg [.lit (.int .u8 0), .lit (.int .u8 0)], .agg [.lit (.int .u8 0), .lit (.int .u8 0)], .agg [.lit (.int .u8 0), .lit (.int .u8 0)], .agg [.lit (.int .u8 0), .lit (.int .u8 0)], .agg [.lit (.int .u8 0), .lit (.int .u8 0)], .agg [.lit (.int .u8 0), .lit (.int .u8 0)], .agg [.lit (.int .u8 0), .lit (.int .u8 0)]]
/-- One of Go's own tables, pinned by name: the form's constant. -/
def laid_unicode_utf8_first : DataW Unit := Go.Pinned.utf8First

/-- 'pursebearerlaw17.PlaneRow': WHATEVER THE INPUT: true; the input reads as it did. -/
def planeRowSpec : ChangeSpec := { name := "planeRow", fn := fun _ => fun
  | [d1, d2] => { results := [.lit (.bool true)], args := [d1, d2] }
  | _ => none }
def planeRowRow : OpenClaim := { program := "ytnnddjmdpplolaagreatdoor", sum := "6617720e0b6a00e373c0da87e0e263994c00cf57c9f05fb97a6a4d0cf2664e33", func := "pursebearer/pursebearerlaw17.PlaneRow", spec := "planeRow", inPlace := ["internal/bytealg.CountString", "internal/bytealg.IndexByteString", "internal/bytealg.IndexString"], unfollowed := true, recurses := true, named := ["unicode/utf8.first", "unicode/utf8.acceptRanges", "internal/bytealg.MaxLen"], plainKeys := false, apart := false, laid := [("unicode/utf8.acceptRanges", laid_unicode_utf8_acceptRanges), ("unicode/utf8.first", laid_unicode_utf8_first)] }
def PlaneRowSaid : Prop := planeRowRow.holds Tryz.pinned (OpenSpec.ofChange planeRowSpec)

/-- ITS FALSE NEIGHBOUR: 'it returns false'. Refute it at one input. -/
def planeRowWrong : ChangeSpec := { name := "planeRow", fn := fun _ => fun
  | [d1, d2] => { results := [.lit (.bool false)], args := [d1, d2] }
  | _ => none }
def PlaneRowWrongFalsely : Prop := planeRowRow.holds Tryz.pinned (OpenSpec.ofChange planeRowWrong)

/-- 'pursebearerlaw17.PlaneSnap': WHATEVER THE INPUT: true; the input reads as it did. -/
def planeSnapSpec : ChangeSpec := { name := "planeSnap", fn := fun _ => fun
  | [d] => { results := [.lit (.bool true)], args := [d] }
  | _ => none }
def planeSnapRow : OpenClaim := { program := "ytnnddjmdpplolaagreatdoor", sum := "6617720e0b6a00e373c0da87e0e263994c00cf57c9f05fb97a6a4d0cf2664e33", func := "pursebearer/pursebearerlaw17.PlaneSnap", spec := "planeSnap", inPlace := ["internal/bytealg.CountString", "internal/bytealg.IndexByteString", "internal/bytealg.IndexString"], unfollowed := true, recurses := true, named := ["unicode/utf8.first", "unicode/utf8.acceptRanges", "internal/bytealg.MaxLen"], plainKeys := false, apart := false, laid := [("unicode/utf8.acceptRanges", laid_unicode_utf8_acceptRanges), ("unicode/utf8.first", laid_unicode_utf8_first)] }
def PlaneSnapSaid : Prop := planeSnapRow.holds Tryz.pinned (OpenSpec.ofChange planeSnapSpec)

/-- ITS FALSE NEIGHBOUR: 'it returns false'. Refute it at one input. -/
def planeSnapWrong : ChangeSpec := { name := "planeSnap", fn := fun _ => fun
  | [d] => { results := [.lit (.bool false)], args := [d] }
  | _ => none }
def PlaneSnapWrongFalsely : Prop := planeSnapRow.holds Tryz.pinned (OpenSpec.ofChange planeSnapWrong)

/-- 'pursebearerlaw17.PlaneLive': WHATEVER THE INPUT: true; the input reads as it did. -/
def planeLiveSpec : ChangeSpec := { name := "planeLive", fn := fun _ => fun
  | [d] => { results := [.lit (.bool true)], args := [d] }
  | _ => none }
def planeLiveRow : OpenClaim := { program := "ytnnddjmdpplolaagreatdoor", sum := "6617720e0b6a00e373c0da87e0e263994c00cf57c9f05fb97a6a4d0cf2664e33", func := "pursebearer/pursebearerlaw17.PlaneLive", spec := "planeLive", inPlace := ["internal/bytealg.CountString", "internal/bytealg.IndexByteString", "internal/bytealg.IndexString"], unfollowed := true, recurses := true, named := ["unicode/utf8.first", "unicode/utf8.acceptRanges", "internal/bytealg.MaxLen"], plainKeys := false, apart := false, laid := [("unicode/utf8.acceptRanges", laid_unicode_utf8_acceptRanges), ("unicode/utf8.first", laid_unicode_utf8_first)] }
def PlaneLiveSaid : Prop := planeLiveRow.holds Tryz.pinned (OpenSpec.ofChange planeLiveSpec)

/-- ITS FALSE NEIGHBOUR: 'it returns false'. Refute it at one input. -/
def planeLiveWrong : ChangeSpec := { name := "planeLive", fn := fun _ => fun
  | [d] => { results := [.lit (.bool false)], args := [d] }
  | _ => none }
def PlaneLiveWrongFalsely : Prop := planeLiveRow.holds Tryz.pinned (OpenSpec.ofChange planeLiveWrong)

/-- 'pursebearerlaw17.PlaneEnds': WHATEVER THE INPUT: true; the input reads as it did. -/
def planeEndsSpec : ChangeSpec := { name := "planeEnds", fn := fun _ => fun
  | [d] => { results := [.lit (.bool true)], args := [d] }
  | _ => none }
def planeEndsRow : OpenClaim := { program := "ytnnddjmdpplolaagreatdoor", sum := "6617720e0b6a00e373c0da87e0e263994c00cf57c9f05fb97a6a4d0cf2664e33", func := "pursebearer/pursebearerlaw17.PlaneEnds", spec := "planeEnds", inPlace := ["internal/bytealg.CountString", "internal/bytealg.IndexByteString", "internal/bytealg.IndexString"], unfollowed := true, recurses := true, named := ["unicode/utf8.first", "unicode/utf8.acceptRanges", "internal/bytealg.MaxLen"], plainKeys := false, apart := false, laid := [("unicode/utf8.acceptRanges", laid_unicode_utf8_acceptRanges), ("unicode/utf8.first", laid_unicode_utf8_first)] }
def PlaneEndsSaid : Prop := planeEndsRow.holds Tryz.pinned (OpenSpec.ofChange planeEndsSpec)

/-- ITS FALSE NEIGHBOUR: 'it returns false'. Refute it at one input. -/
def planeEndsWrong : ChangeSpec := { name := "planeEnds", fn := fun _ => fun
  | [d] => { results := [.lit (.bool false)], args := [d] }
  | _ => none }
def PlaneEndsWrongFalsely : Prop := planeEndsRow.holds Tryz.pinned (OpenSpec.ofChange planeEndsWrong)

/- THE SECOND FORM. 'bulk': how many values and letters a reading holds, each counted each time it is reached (what is shared counts as often as it is met; a slice's spare places count too). A statement '..UptoSaid' is the law's where the arguments, and the package variables that the reading takes, are together of bulk at most 1048576: NARROWER than '..Said'. Prove '..Said' where nothing that the law and all that it calls make is longer than what came in: it says more and counts as full. Else prove '..UptoSaid'. A law counts once. -/
mutual
def uptoBulk {H : Type} : DataW H → Nat
  | .lit (.string bytes) => bytes.length + 1
  | .lit _ => 1
  | .nil => 1
  | .ptr d => uptoBulk d + 1
  | .slice elems spare => uptoBulkAll elems + uptoBulkAll spare + 1
  | .agg parts => uptoBulkAll parts + 1
  | .iface _ d => uptoBulk d + 1
  | .map entries => uptoBulkEntries entries + 1
  | .held _ => 1
def uptoBulkAll {H : Type} : List (DataW H) → Nat
  | [] => 0
  | d :: r => uptoBulk d + uptoBulkAll r
def uptoBulkEntries {H : Type} : List (Lit × DataW H) → Nat
  | [] => 0
  | x :: r => uptoBulkEntry x + uptoBulkEntries r
def uptoBulkEntry {H : Type} : Lit × DataW H → Nat
  | (.string bytes, d) => bytes.length + uptoBulk d + 1
  | (_, d) => uptoBulk d + 1
 end
def uptoSmall : (H : Type) → List (DataW H) → Bool := fun _ ds => decide (uptoBulkAll ds ≤ 1048576)
def OpenSpec.upto (s : _root_.Go.ChangeSpec) : _root_.Go.OpenSpec := { _root_.Go.OpenSpec.ofChange s with cond := some uptoSmall }

/-- 'pursebearerlaw17.PlaneRow', WHERE WHAT IT READS IS OF BULK AT MOST 1048576: true; the input reads as it did. -/
def planeRowUptoRow : OpenClaim := { program := "ytnnddjmdpplolaagreatdoor", sum := "6617720e0b6a00e373c0da87e0e263994c00cf57c9f05fb97a6a4d0cf2664e33", func := "pursebearer/pursebearerlaw17.PlaneRow", spec := "planeRow", inPlace := ["internal/bytealg.CountString", "internal/bytealg.IndexByteString", "internal/bytealg.IndexString"], unfollowed := true, recurses := true, named := ["unicode/utf8.first", "unicode/utf8.acceptRanges", "internal/bytealg.MaxLen"], plainKeys := false, apart := false, laid := [("unicode/utf8.acceptRanges", laid_unicode_utf8_acceptRanges), ("unicode/utf8.first", laid_unicode_utf8_first)], narrowed := true }
def PlaneRowUptoSaid : Prop := planeRowUptoRow.holds Tryz.pinned (OpenSpec.upto planeRowSpec)

/-- 'pursebearerlaw17.PlaneSnap', WHERE WHAT IT READS IS OF BULK AT MOST 1048576: true; the input reads as it did. -/
def planeSnapUptoRow : OpenClaim := { program := "ytnnddjmdpplolaagreatdoor", sum := "6617720e0b6a00e373c0da87e0e263994c00cf57c9f05fb97a6a4d0cf2664e33", func := "pursebearer/pursebearerlaw17.PlaneSnap", spec := "planeSnap", inPlace := ["internal/bytealg.CountString", "internal/bytealg.IndexByteString", "internal/bytealg.IndexString"], unfollowed := true, recurses := true, named := ["unicode/utf8.first", "unicode/utf8.acceptRanges", "internal/bytealg.MaxLen"], plainKeys := false, apart := false, laid := [("unicode/utf8.acceptRanges", laid_unicode_utf8_acceptRanges), ("unicode/utf8.first", laid_unicode_utf8_first)], narrowed := true }
def PlaneSnapUptoSaid : Prop := planeSnapUptoRow.holds Tryz.pinned (OpenSpec.upto planeSnapSpec)

/-- 'pursebearerlaw17.PlaneLive', WHERE WHAT IT READS IS OF BULK AT MOST 1048576: true; the input reads as it did. -/
def planeLiveUptoRow : OpenClaim := { program := "ytnnddjmdpplolaagreatdoor", sum := "6617720e0b6a00e373c0da87e0e263994c00cf57c9f05fb97a6a4d0cf2664e33", func := "pursebearer/pursebearerlaw17.PlaneLive", spec := "planeLive", inPlace := ["internal/bytealg.CountString", "internal/bytealg.IndexByteString", "internal/bytealg.IndexString"], unfollowed := true, recurses := true, named := ["unicode/utf8.first", "unicode/utf8.acceptRanges", "internal/bytealg.MaxLen"], plainKeys := false, apart := false, laid := [("unicode/utf8.acceptRanges", laid_unicode_utf8_acceptRanges), ("unicode/utf8.first", laid_unicode_utf8_first)], narrowed := true }
def PlaneLiveUptoSaid : Prop := planeLiveUptoRow.holds Tryz.pinned (OpenSpec.upto planeLiveSpec)

/-- 'pursebearerlaw17.PlaneEnds', WHERE WHAT IT READS IS OF BULK AT MOST 1048576: true; the input reads as it did. -/
def planeEndsUptoRow : OpenClaim := { program := "ytnnddjmdpplolaagreatdoor", sum := "6617720e0b6a00e373c0da87e0e263994c00cf57c9f05fb97a6a4d0cf2664e33", func := "pursebearer/pursebearerlaw17.PlaneEnds", spec := "planeEnds", inPlace := ["internal/bytealg.CountString", "internal/bytealg.IndexByteString", "internal/bytealg.IndexString"], unfollowed := true, recurses := true, named := ["unicode/utf8.first", "unicode/utf8.acceptRanges", "internal/bytealg.MaxLen"], plainKeys := false, apart := false, laid := [("unicode/utf8.acceptRanges", laid_unicode_utf8_acceptRanges), ("unicode/utf8.first", laid_unicode_utf8_first)], narrowed := true }
def PlaneEndsUptoSaid : Prop := planeEndsUptoRow.holds Tryz.pinned (OpenSpec.upto planeEndsSpec)

end Rows
end Go.Proofs.YtnnddjmdpplolaaGreatDoor
