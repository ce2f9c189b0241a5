/-
  NARROWER THAN 'FOR EVERY INPUT', by the rows' own cells (each row's printed sentence says how): RouteNews: laid · RouteRow: laid · RouteAll: laid · RouteOwn: laid.
  DERIVED. THE GIVEN ROWS OF THIS SEAT. 4 by the template 'for every input the law returns true; each argument reads behind the call as it read before'; 0 by the template 'total and deterministic' (their statements: YtlaaapfpchnmeaaDoorTotals.lean).
  GIVEN WITH THE SEED: the statements are not yours to turn. If you find one false, say at which input.
  Laid BY PROGRAM, IN A SANDBOX (cutbox-rows.mjs): the forced cells as the released guide's own fill.sh prints them over the translation 96fa21acb91bfb82… (all of the seat's roots in one cut). By AI agents, Wed Nov 11 2026. No macro, syntax, notation, axiom, sorry.
-/
import Derived.Test.YtlaaapfpchnmeaaDoorChecked
import GoSem.PinnedTables
import GoSem.Claim
import GoSem.ClaimJoined
import GoSem.ClaimMapViews
import Derived.JoinedTies
import Derived.KernelRfl
namespace Go.Proofs.YtlaaapfpchnmeaaDoor
/- THE CELL 'sum', in the pinned program and in every row, IS THE sha256 OF THE DUMP (.gsa) THAT YtlaaapfpchnmeaaDoorProg.lean LOADS. Nothing in Lean hashes anything: it is a label: what it is worth is what the hold of that sum in a sandbox is worth. -/
noncomputable def Tryd.pinned : Pinned := { name := "ytlaaapfpchnmeaadoor", sum := "96fa21acb91bfb824d36c2417a556ef972843a5dadc870ec6747347f748ed6cc", checked := Tryd.checked }
namespace Rows
def none {H : Type} : Left H := { results := [], args := [] }

/- WHAT THE LISTED PACKAGE-LEVEL VARIABLES READ AS WHEN THE CALL BEGINS. Each datum BY PROGRAM (the guide's laid-datum.mjs) off the statement by which the dump's own 'gosem.cut.vars' lays the variable. In a bare row this is a premise. The card (YtlaaapfpchnmeaaDoorCards.lean) ties it to the program's text. -/
def laid_unicode_utf8_acceptRanges {H : Type} : DataW H := .agg [.agg [.lit (.int .u8 128), .lit (.int .u8 191)], .agg [.lit (.int .u8 160), .lit (.int .u8 191)], .agg [.lit (.int .u8 128), .lit (.int .u8 159)], .agg [.lit (.int .u8 144), .lit (.int .u8 191)], .agg [.lit (.int .u8 128), .lit (.int .u8 143)], .agg [.lit (.int .u8 0), .lit (.int .u8 0)], .agg [.lit (.int .u8 0), .lit (.int .u8 0)], .agg [.lit (.int .u8 0), .lit (.int .u8 0)], .agg [.lit (.int .u8 0), .lit (.int .u8 0)], .agg [.lit (.int .u8 0), .lit (.int .u8 0)], .agg [.lit (.int .u8 0), .lit (.int .u8 0)], .agg [.lit (.int .u8 0), .lit (.int .u8 0)], .agg [.lit (.int .u8 0), .lit (.int .u8 0)], .agg [.lit (.int .u8 0), .lit (.int .u8 0)], .agg [.lit (.int .u8 0), .lit (.int .u8 0)], .agg [.lit (.int .u8 0), .lit (.int .u8 0)]]
/-- One of Go's own tables, pinned by name: the form's constant. -/
def laid_unicode_utf8_first : DataW Unit := Go.Pinned.utf8First

/-- 'pursebearerlaw08.RouteNews': WHATEVER THE INPUT: true; the input reads as it did. -/
def routeNewsSpec : ChangeSpec := { name := "routeNews", fn := fun _ => fun
  | [d1, d2, d3, d4] => { results := [.lit (.bool true)], args := [d1, d2, d3, d4] }
  | _ => none }
def routeNewsRow : OpenClaim := { program := "ytlaaapfpchnmeaadoor", sum := "96fa21acb91bfb824d36c2417a556ef972843a5dadc870ec6747347f748ed6cc", func := "pursebearer/pursebearerlaw08.RouteNews", spec := "routeNews", inPlace := ["internal/bytealg.CountString", "internal/bytealg.IndexByteString", "internal/bytealg.IndexString"], unfollowed := true, recurses := true, named := ["unicode/utf8.first", "unicode/utf8.acceptRanges", "internal/bytealg.MaxLen"], apart := false, laid := [("unicode/utf8.acceptRanges", laid_unicode_utf8_acceptRanges), ("unicode/utf8.first", laid_unicode_utf8_first)] }
def RouteNewsSaid : Prop := routeNewsRow.holds Tryd.pinned (OpenSpec.ofChange routeNewsSpec)

/-- ITS FALSE NEIGHBOUR: 'it returns false'. Refute it at one input. -/
def routeNewsWrong : ChangeSpec := { name := "routeNews", fn := fun _ => fun
  | [d1, d2, d3, d4] => { results := [.lit (.bool false)], args := [d1, d2, d3, d4] }
  | _ => none }
def RouteNewsWrongFalsely : Prop := routeNewsRow.holds Tryd.pinned (OpenSpec.ofChange routeNewsWrong)

/-- 'pursebearerlaw08.RouteRow': WHATEVER THE INPUT: true; the input reads as it did. -/
def routeRowSpec : ChangeSpec := { name := "routeRow", fn := fun _ => fun
  | [d1, d2, d3, d4] => { results := [.lit (.bool true)], args := [d1, d2, d3, d4] }
  | _ => none }
def routeRowRow : OpenClaim := { program := "ytlaaapfpchnmeaadoor", sum := "96fa21acb91bfb824d36c2417a556ef972843a5dadc870ec6747347f748ed6cc", func := "pursebearer/pursebearerlaw08.RouteRow", spec := "routeRow", inPlace := ["internal/bytealg.CountString", "internal/bytealg.IndexByteString", "internal/bytealg.IndexString"], unfollowed := true, recurses := true, named := ["unicode/utf8.first", "unicode/utf8.acceptRanges", "internal/bytealg.MaxLen"], apart := false, laid := [("unicode/utf8.acceptRanges", laid_unicode_utf8_acceptRanges), ("unicode/utf8.first", laid_unicode_utf8_first)] }
def RouteRowSaid : Prop := routeRowRow.holds Tryd.pinned (OpenSpec.ofChange routeRowSpec)

/-- ITS FALSE NEIGHBOUR: 'it returns false'. Refute it at one input. -/
def routeRowWrong : ChangeSpec := { name := "routeRow", fn := fun _ => fun
  | [d1, d2, d3, d4] => { results := [.lit (.bool false)], args := [d1, d2, d3, d4] }
  | _ => none }
def RouteRowWrongFalsely : Prop := routeRowRow.holds Tryd.pinned (OpenSpec.ofChange routeRowWrong)

/-- 'pursebearerlaw08.RouteAll': WHATEVER THE INPUT: true; the input reads as it did. -/
def routeAllSpec : ChangeSpec := { name := "routeAll", fn := fun _ => fun
  | [d1, d2, d3] => { results := [.lit (.bool true)], args := [d1, d2, d3] }
  | _ => none }
def routeAllRow : OpenClaim := { program := "ytlaaapfpchnmeaadoor", sum := "96fa21acb91bfb824d36c2417a556ef972843a5dadc870ec6747347f748ed6cc", func := "pursebearer/pursebearerlaw08.RouteAll", spec := "routeAll", inPlace := ["internal/bytealg.CountString", "internal/bytealg.IndexByteString", "internal/bytealg.IndexString"], unfollowed := true, recurses := true, named := ["unicode/utf8.first", "unicode/utf8.acceptRanges", "internal/bytealg.MaxLen"], apart := false, laid := [("unicode/utf8.acceptRanges", laid_unicode_utf8_acceptRanges), ("unicode/utf8.first", laid_unicode_utf8_first)] }
def RouteAllSaid : Prop := routeAllRow.holds Tryd.pinned (OpenSpec.ofChange routeAllSpec)

/-- ITS FALSE NEIGHBOUR: 'it returns false'. Refute it at one input. -/
def routeAllWrong : ChangeSpec := { name := "routeAll", fn := fun _ => fun
  | [d1, d2, d3] => { results := [.lit (.bool false)], args := [d1, d2, d3] }
  | _ => none }
def RouteAllWrongFalsely : Prop := routeAllRow.holds Tryd.pinned (OpenSpec.ofChange routeAllWrong)

/-- 'pursebearerlaw08.RouteOwn': WHATEVER THE INPUT: true; the input reads as it did. -/
def routeOwnSpec : ChangeSpec := { name := "routeOwn", fn := fun _ => fun
  | [d1, d2, d3] => { results := [.lit (.bool true)], args := [d1, d2, d3] }
  | _ => none }
def routeOwnRow : OpenClaim := { program := "ytlaaapfpchnmeaadoor", sum := "96fa21acb91bfb824d36c2417a556ef972843a5dadc870ec6747347f748ed6cc", func := "pursebearer/pursebearerlaw08.RouteOwn", spec := "routeOwn", inPlace := ["internal/bytealg.CountString", "internal/bytealg.IndexByteString", "internal/bytealg.IndexString"], unfollowed := true, recurses := true, named := ["unicode/utf8.first", "unicode/utf8.acceptRanges", "internal/bytealg.MaxLen"], apart := false, laid := [("unicode/utf8.acceptRanges", laid_unicode_utf8_acceptRanges), ("unicode/utf8.first", laid_unicode_utf8_first)] }
def RouteOwnSaid : Prop := routeOwnRow.holds Tryd.pinned (OpenSpec.ofChange routeOwnSpec)

/-- ITS FALSE NEIGHBOUR: 'it returns false'. Refute it at one input. -/
def routeOwnWrong : ChangeSpec := { name := "routeOwn", fn := fun _ => fun
  | [d1, d2, d3] => { results := [.lit (.bool false)], args := [d1, d2, d3] }
  | _ => none }
def RouteOwnWrongFalsely : Prop := routeOwnRow.holds Tryd.pinned (OpenSpec.ofChange routeOwnWrong)

/- THE SECOND FORM. 'bulk': how many values and letters a reading holds, each counted each time it is reached (what is shared counts as often as it is met; a slice's spare places count too). A statement '..UptoSaid' is the law's where the arguments, and the package variables that the reading takes, are together of bulk at most 1048576: NARROWER than '..Said'. Prove '..Said' where nothing that the law and all that it calls make is longer than what came in: it says more and counts as full. Else prove '..UptoSaid'. A law counts once. -/
mutual
def uptoBulk {H : Type} : DataW H → Nat
  | .lit (.string bytes) => bytes.length + 1
  | .lit _ => 1
  | .nil => 1
  | .ptr d => uptoBulk d + 1
  | .slice elems spare => uptoBulkAll elems + uptoBulkAll spare + 1
  | .agg parts => uptoBulkAll parts + 1
  | .iface _ d => uptoBulk d + 1
  | .map entries => uptoBulkEntries entries + 1
  | .held _ => 1
def uptoBulkAll {H : Type} : List (DataW H) → Nat
  | [] => 0
  | d :: r => uptoBulk d + uptoBulkAll r
def uptoBulkEntries {H : Type} : List (Lit × DataW H) → Nat
  | [] => 0
  | x :: r => uptoBulkEntry x + uptoBulkEntries r
def uptoBulkEntry {H : Type} : Lit × DataW H → Nat
  | (.string bytes, d) => bytes.length + uptoBulk d + 1
  | (_, d) => uptoBulk d + 1
 end
def uptoSmall : (H : Type) → List (DataW H) → Bool := fun _ ds => decide (uptoBulkAll ds ≤ 1048576)
def OpenSpec.upto (s : _root_.Go.ChangeSpec) : _root_.Go.OpenSpec := { _root_.Go.OpenSpec.ofChange s with cond := some uptoSmall }

/-- 'pursebearerlaw08.RouteNews', WHERE WHAT IT READS IS OF BULK AT MOST 1048576: true; the input reads as it did. -/
def routeNewsUptoRow : OpenClaim := { program := "ytlaaapfpchnmeaadoor", sum := "96fa21acb91bfb824d36c2417a556ef972843a5dadc870ec6747347f748ed6cc", func := "pursebearer/pursebearerlaw08.RouteNews", spec := "routeNews", inPlace := ["internal/bytealg.CountString", "internal/bytealg.IndexByteString", "internal/bytealg.IndexString"], unfollowed := true, recurses := true, named := ["unicode/utf8.first", "unicode/utf8.acceptRanges", "internal/bytealg.MaxLen"], apart := false, laid := [("unicode/utf8.acceptRanges", laid_unicode_utf8_acceptRanges), ("unicode/utf8.first", laid_unicode_utf8_first)], narrowed := true }
def RouteNewsUptoSaid : Prop := routeNewsUptoRow.holds Tryd.pinned (OpenSpec.upto routeNewsSpec)

/-- 'pursebearerlaw08.RouteRow', WHERE WHAT IT READS IS OF BULK AT MOST 1048576: true; the input reads as it did. -/
def routeRowUptoRow : OpenClaim := { program := "ytlaaapfpchnmeaadoor", sum := "96fa21acb91bfb824d36c2417a556ef972843a5dadc870ec6747347f748ed6cc", func := "pursebearer/pursebearerlaw08.RouteRow", spec := "routeRow", inPlace := ["internal/bytealg.CountString", "internal/bytealg.IndexByteString", "internal/bytealg.IndexString"], unfollowed := true, recurses := true, named := ["unicode/utf8.first", "unicode/utf8.acceptRanges", "internal/bytealg.MaxLen"], apart := false, laid := [("unicode/utf8.acceptRanges", laid_unicode_utf8_acceptRanges), ("unicode/utf8.first", laid_unicode_utf8_first)], narrowed := true }
def RouteRowUptoSaid : Prop := routeRowUptoRow.holds Tryd.pinned (OpenSpec.upto routeRowSpec)

/-- 'pursebearerlaw08.RouteAll', WHERE WHAT IT READS IS OF BULK AT MOST 1048576: true; the input reads as it did. -/
def routeAllUptoRow : OpenClaim := { program := "ytlaaapfpchnmeaadoor", sum := "96fa21acb91bfb824d36c2417a556ef972843a5dadc870ec6747347f748ed6cc", func := "pursebearer/pursebearerlaw08.RouteAll", spec := "routeAll", inPlace := ["internal/bytealg.CountString", "internal/bytealg.IndexByteString", "internal/bytealg.IndexString"], unfollowed := true, recurses := true, named := ["unicode/utf8.first", "unicode/utf8.acceptRanges", "internal/bytealg.MaxLen"], apart := false, laid := [("unicode/utf8.acceptRanges", laid_unicode_utf8_acceptRanges), ("unicode/utf8.first", laid_unicode_utf8_first)], narrowed := true }
def RouteAllUptoSaid : Prop := routeAllUptoRow.holds Tryd.pinned (OpenSpec.upto routeAllSpec)

/-- 'pursebearerlaw08.RouteOwn', WHERE WHAT IT READS IS OF BULK AT MOST 1048576: true; the input reads as it did. -/
def routeOwnUptoRow : OpenClaim := { program := "ytlaaapfpchnmeaadoor", sum := "96fa21acb91bfb824d36c2417a556ef972843a5dadc870ec6747347f748ed6cc", func := "pursebearer/pursebearerlaw08.RouteOwn", spec := "routeOwn", inPlace := ["internal/bytealg.CountString", "internal/bytealg.IndexByteString", "internal/bytealg.IndexString"], unfollowed := true, recurses := true, named := ["unicode/utf8.first", "unicode/utf8.acceptRanges", "internal/bytealg.MaxLen"], apart := false, laid := [("unicode/utf8.acceptRanges", laid_unicode_utf8_acceptRanges), ("unicode/utf8.first", laid_unicode_utf8_first)], narrowed := true }
def RouteOwnUptoSaid : Prop := routeOwnUptoRow.holds Tryd.pinned (OpenSpec.upto routeOwnSpec)

end Rows
end Go.Proofs.YtlaaapfpchnmeaaDoor
