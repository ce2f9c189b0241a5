import Derived.Test.YtmpciohmljpncaaGreatDoorRows
import Derived.LaidByTextLater
import Derived.LaidOnce
import Derived.SevenTiedAt
namespace Go.Proofs.YtmpciohmljpncaaGreatDoor
open Go
set_option maxRecDepth 100000
noncomputable def laids : List (String × DataW Unit) := [("unicode/utf8.acceptRanges", Rows.laid_unicode_utf8_acceptRanges), ("internal/strconv.uint64pow10", Rows.laid_internal_strconv_uint64pow10), ("math/bits.deBruijn32tab", Rows.laid_math_bits_deBruijn32tab), ("math/bits.deBruijn64tab", Rows.laid_math_bits_deBruijn64tab), ("strconv.ErrSyntax", Rows.laid_strconv_ErrSyntax), ("strconv.ErrRange", Rows.laid_strconv_ErrRange)]
theorem t1 : Tryz.prog.worded (varsWordLater true) = true := by kernel_rfl
theorem t2 : Tryz.prog.worded (varsWordLater !true) = false := by kernel_rfl
theorem t3 : Tryz.prog.worded rootWordLater = true := by kernel_rfl
theorem t4 : laids.map (fun x => Tryz.prog.kindOfLater x.1) = [LaidKind.data, .data, .data, .data, .sentinel, .sentinel].map some := by kernel_rfl
theorem t5 : (Tryz.prog.funcNamed "gosem.cut.vars").isSome = true := by kernel_rfl
theorem t6 : varsNamedLaterB Tryz.prog (varsId Tryz.prog) laids = true := by kernel_rfl
theorem pin_laid_unicode_utf8_first : Tryz.pinned.checked.prog.pinnedFits "unicode/utf8.first" = true := by kernel_rfl
theorem noOwnUnsafe : Tryz.pinned.checked.prog.headLifts.contains "ownunsafe" = false := by kernel_rfl
theorem fits1 : Tryz.pinned.checked.prog.listedFits [("unicode/utf8.first", Rows.laid_unicode_utf8_first), ("unicode/utf8.acceptRanges", Rows.laid_unicode_utf8_acceptRanges), ("internal/strconv.uint64pow10", Rows.laid_internal_strconv_uint64pow10), ("math/bits.deBruijn32tab", Rows.laid_math_bits_deBruijn32tab), ("math/bits.deBruijn64tab", Rows.laid_math_bits_deBruijn64tab), ("strconv.ErrSyntax", Rows.laid_strconv_ErrSyntax), ("strconv.ErrRange", Rows.laid_strconv_ErrRange)] = true := by
 unfold Program.listedFits
 rw [noOwnUnsafe]
 kernel_rfl
theorem tieOf (t7 : ∀ os tape, doorLeaves Tryz.prog 64 8 100 laids os tape = some (laids.filter fun x => x.2.handleName?.isNone, (funcsListed laids).map (·.2.funcsOut))) : Tryz.prog.laidByTextLater [("unicode/utf8.acceptRanges", Rows.laid_unicode_utf8_acceptRanges), ("internal/strconv.uint64pow10", Rows.laid_internal_strconv_uint64pow10), ("math/bits.deBruijn32tab", Rows.laid_math_bits_deBruijn32tab), ("math/bits.deBruijn64tab", Rows.laid_math_bits_deBruijn64tab), ("strconv.ErrSyntax", Rows.laid_strconv_ErrSyntax), ("strconv.ErrRange", Rows.laid_strconv_ErrRange)] [.data, .data, .data, .data, .sentinel, .sentinel] true :=
 Program.laidByTextLater_by_one 64 8 100 t1 t2 t3 t4 t5 t6 t7
theorem topGrows_row_tieOf (tie : Tryz.prog.laidByTextLater [("unicode/utf8.acceptRanges", Rows.laid_unicode_utf8_acceptRanges), ("internal/strconv.uint64pow10", Rows.laid_internal_strconv_uint64pow10), ("math/bits.deBruijn32tab", Rows.laid_math_bits_deBruijn32tab), ("math/bits.deBruijn64tab", Rows.laid_math_bits_deBruijn64tab), ("strconv.ErrSyntax", Rows.laid_strconv_ErrSyntax), ("strconv.ErrRange", Rows.laid_strconv_ErrRange)] [.data, .data, .data, .data, .sentinel, .sentinel] true) : Rows.topGrowsRow.laidByTextAt .later Tryz.pinned [.pinned, .data, .data, .data, .data, .sentinel, .sentinel] true :=
 OpenClaim.laidByTextAt_pinned rfl rfl tie rfl rfl rfl rfl (fun y hy _e => by
  simp only [Rows.topGrowsRow, List.zip_cons_cons, List.zip_nil_right, List.mem_cons, List.mem_nil_iff, or_false] at hy
  rcases hy with rfl | rfl | rfl | rfl | rfl | rfl | rfl
  ·exact ⟨pin_laid_unicode_utf8_first, by kernel_rfl⟩
  ·cases _e
  ·cases _e
  ·cases _e
  ·cases _e
  ·cases _e
  ·cases _e) fits1
end Go.Proofs.YtmpciohmljpncaaGreatDoor
