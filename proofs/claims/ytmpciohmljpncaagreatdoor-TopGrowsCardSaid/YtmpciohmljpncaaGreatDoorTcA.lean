import Derived.Test.YtmpciohmljpncaaGreatDoorCards
import Derived.ProofKit
import Derived.SevenTiedAt
import Derived.Lay
import Derived.LaidLaws
namespace Go.Proofs.YtmpciohmljpncaaGreatDoor.topGrows
open Go
set_option maxRecDepth 100000
/-- the walk over the functions that a function leads to, with a mask in the place of the list of those seen -/
def viaM (P : Program) : (fuel : Nat) → (todo : List FuncId) → (mask : Nat) → (seen : List FuncId) → List FuncId
 | 0, _, _, seen => seen.reverse
 | _, [], _, seen => seen.reverse
 | n + 1, f :: todo, mask, seen =>
  cond (mask.testBit f) (viaM P n todo mask seen) (viaM P n ((P.funcs[f]?).elim [] P.leadsTo ++ todo) (mask ||| 2 ^ f) (f :: seen))
theorem viaM_eq (P : Program) : ∀ (n : Nat) (todo : List FuncId) (mask : Nat) (seen : List FuncId), (∀ f, mask.testBit f = seen.contains f) → P.closureVia n todo seen = viaM P n todo mask seen
 | 0, _, _, _, _ => rfl
 | n + 1, [], _, _, _ => rfl
 | n + 1, f :: todo, mask, seen, h => by
  unfold Program.closureVia viaM
  rw [h f]
  cases hc : seen.contains f with
  | true => exact viaM_eq P n todo mask seen h
  | false =>
   refine viaM_eq P n _ _ _ fun g => ?_
   rw [Nat.testBit_or, h g, Nat.testBit_two_pow, List.contains_cons]
   by_cases e : f = g
   ·subst e; simp
   ·rw [decide_eq_false e, Bool.or_false]
    have : (g == f) = false := by simpa using fun x => e x.symm
    rw [this, Bool.false_or]
def reached : List Nat := [3,4,8,5,9,10,27,64,65,133,11,28,6,13,32,12,29,66,67,134,218,139,221,316,222,223,317,392,398,413,479,325,399,393,459,509,544,470,469,510,545,224,318,394,314,391,458,61,132,217,136,131,208,214,184,209,309,210,310,311,211,312,313,390,212,213,215,216,135,30,31,16,15,14,33,17,34,35,68,7,18,19,36,69,137,138,220,219,315,70,141,140,225,71,142,227,228,319,395,396,461,460,229,230,320,328,402,231,321,232,233,322,226,143,145,146,235,113,144,234,323,324,397,462,72,73,74,75,37,76,77,78,79,80,81,82,38,39,40,41,42,83,147,43,84,148,237,236,48,118,149,238,326,400,463,464,511,512,465,466,513,514,546,547,239,150,151,152,240,241,153,190,287,334,356,412,478,273,294,369,368,436,411,476,477,518,550,355,358,438,499,192,289,362,357,437,359,420,182,276,275,350,434,277,498,542,575,351,484,483,519,485,285,520,439,488,500,543,267,344,417,418,482,425,268,345,419,160,421,486,521,551,552,577,576,595,365,291,441,367,195,422,487,522,523,489,379,451,453,452,423,490,524,346,424,374,446,447,448,297,372,373,376,347,491,526,560,527,561,525,553,557,579,555,580,578,556,554,558,581,582,583,559,528,562,114,530,168,263,335,336,337,406,338,414,404,467,468,264,339,415,480,416,481,340,341,245,529,563,564,584,585,565,567,588,596,597,566,587,586,568,570,569,589,590,591,502,592,492,532,533,534,535,536,250,537,538,531,493,539,571,572,540,574,594,593,598,573,494,445,440,360,262,306,242,327,401,243,244,246,247,248,260,249,261,333,409,410,197,296,370,371,444,124,85,154,155,185,156,86,46,109,179,180,270,178,271,348,426,427,495,428,429,496,497,541,430,431,432,433,272,274,349,181,47,110,111,183,278,352,279,280,353,354,435,281,282,283,284,112,115,116,117,186,187,87,157,126,199,301,88,158,251,329,403,258,159,252,330,405,331,407,471,515,548,549,408,472,516,473,474,517,475,253,254,161,255,89,162,256,332,163,164,257,90,165,166,167,259,91,92,93,94,95,96,169,265,342,97,170,171,266,343,98,99,172,173,174,100,175,101,49,119,120,102,50,121,188,103,176,104,177,269,44,105,106,107,45,108,20,51,122,189,286,123,125,191,288,361,193,290,194,292,293,363,364,366,442,501,443,503,504,196,295,198,298,299,300,375,449,505,127,200,201,302,377,450,506,507,303,378,380,128,202,304,305,203,204,21,23,55,22,53,52,54,24,56,25,57,58,60,59,130,207,129,205,307,206,308,381,387,457,382,454,383,384,455,456,508,385,386,388,389,26,62,63]
theorem fuel_eq : 1 + (Tryz.prog.funcs.toList.map fun g => (Tryz.prog.leadsTo g).length + 1).sum = 1666 := by kernel_rfl
theorem via_eq : viaM Tryz.prog 1666 [3] 0 [] = reached := by kernel_rfl
theorem closure_eq : Tryz.prog.closure 3 = reached := by
 unfold Program.closure
 rw [fuel_eq, viaM_eq Tryz.prog 1666 [3] 0 [] (fun f => by rw [Nat.zero_testBit]; rfl), via_eq]
theorem inPlace_eq : (Rows.topGrowsRow.inPlace == Tryz.prog.inPlace 3) = true := by
 unfold Program.inPlace
 rw [closure_eq]
 kernel_rfl
theorem unf : Tryz.prog.unfollowed 3 = true := by
 unfold Program.unfollowed
 rw [closure_eq]
 kernel_rfl
theorem unf_eq : (Rows.topGrowsRow.unfollowed == Tryz.prog.unfollowed 3) = true := by
 rw [unf]
 kernel_rfl
theorem rec_eq : (Rows.topGrowsRow.recurses == Tryz.prog.recurses 3) = true := by
 unfold Program.recurses
 rw [unf, Bool.true_or]
 kernel_rfl
theorem named_eq : (Rows.topGrowsRow.named == Tryz.prog.varsNamed 3) = true := by
 unfold Program.varsNamed
 rw [closure_eq]
 kernel_rfl
theorem goes_reached : (reached.any fun g => (Tryz.prog.funcs[g]?).any Func.goes) = false := by kernel_rfl
theorem goes_all : Tryz.prog.funcs.any Func.goes = false := by kernel_rfl
theorem fnamed : Tryz.prog.funcNamed "pursebearer/pursebearertop.TopGrows" = some 3 := by kernel_rfl
theorem goes_eq : false = Rows.topGrowsRow.goesBy Tryz.prog := by
 have h : Tryz.prog.goes 3 = false := by
  unfold Program.goes
  rw [closure_eq, goes_reached, goes_all, Bool.and_false]
  rfl
 have h2 : Tryz.prog.goesFrom "pursebearer/pursebearertop.TopGrows" = false := by
  unfold Program.goesFrom
  rw [fnamed, Option.any_some]
  exact h
 have h3 : Tryz.prog.goesAt .entering "pursebearer/pursebearertop.TopGrows" = false := by
  unfold Program.goesAt
  rw [h2]
  rfl
 unfold OpenClaim.goesBy
 rw [show Rows.topGrowsRow.start = .entering from rfl, show Rows.topGrowsRow.func = "pursebearer/pursebearertop.TopGrows" from rfl]
 exact h3.symm
end Go.Proofs.YtmpciohmljpncaaGreatDoor.topGrows
