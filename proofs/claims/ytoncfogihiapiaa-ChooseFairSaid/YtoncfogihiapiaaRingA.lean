
/- The numbers of two. -/
import Derived.Test.YtoncfogihiapiaaRef01
namespace Go.Proofs.Ytoncfogihiapiaa
open Go.ChangeShapes Go.WideShapes Go.ChangeAt Go.RowKit
theorem Try.infoI : (Try.prog.info? 3).map (fun i => (i.zero, i.size, i.bytes)) = some (some (.int .i64 0), 1, 8) := by kernel_rfl
theorem Try.infoQ : (Try.prog.info? 69).map (fun i => (i.zero, i.size, i.bytes)) = some (some (.agg #[.int .u64 0, .int .i64 0]), 2, 16) := by kernel_rfl
theorem info_parts' {P : Program} {t : TypeId} {z : Value} {s b : Nat} (h : (P.info? t).map (fun i => (i.zero, i.size, i.bytes)) = some (some z, s, b)) : ∃ i, P.info? t = some i ∧ i.zero = some z ∧ i.size = s ∧ i.bytes = b := by
  cases hi : P.info? t with
  | none => simp [hi] at h
  | some i =>
    simp [hi] at h
    exact ⟨i, rfl, h.1, h.2.1, h.2.2⟩
def x64 (a b : Int) : Int := bits BinOp.xor IntKind.u64 a b
def w64 (a : Int) : Int := IntKind.u64.wrap a
def scr1 (z : Int) : Int := w64 (x64 z (z / 1073741824) * 13787848793156543929)
def scr2 (z : Int) : Int := w64 (x64 z (z / 134217728) * 10723151780598845931)
def scr3 (z : Int) : Int := x64 z (z / 2147483648)
def scr (z : Int) : Int := scr3 (scr2 (scr1 z))
theorem scr_any (z : Int) (w : World) (hz : U64 z) :
    Calls Try.prog 47 #[.int .u64 z] w fun e w' => e = .returned (.int .u64 (scr z)) ∧ w = w' := by
  unfold U64 at hz
  go_enter Try.func47, Try.ntmps47
  go_wp2
  go_ret
  exact ⟨rfl, rfl⟩
theorem wrap_u64_bd (x : Int) : 0 ≤ IntKind.u64.wrap x ∧ IntKind.u64.wrap x ≤ 18446744073709551615 := by
  have e : IntKind.u64.wrap x = x % 18446744073709551616 := by
    simp [IntKind.wrap, IntKind.signed, IntKind.bits]
  rw [e]
  omega
theorem w64_bd (x : Int) : U64 (w64 x) := wrap_u64_bd x
theorem x64_bd (a b : Int) : U64 (x64 a b) := by
  unfold x64 bits
  exact wrap_u64_bd _
theorem scr_bd (z : Int) : U64 (scr z) := x64_bd _ _
theorem rscr_any (z : Int) (w : World) (hz : U64 z) :
    Calls Try.prog 96 #[.int .u64 z] w fun e w' => e = .returned (.int .u64 (scr z)) ∧ w = w' := by
  unfold U64 at hz
  have h1 := (wrap_u64_bd (bits BinOp.xor IntKind.u64 z (z / 1073741824) * 13787848793156543929)).1
  have h2 := (wrap_u64_bd (bits BinOp.xor IntKind.u64 z (z / 1073741824) * 13787848793156543929)).2
  have h3 := (wrap_u64_bd (bits BinOp.xor IntKind.u64 (IntKind.u64.wrap (bits BinOp.xor IntKind.u64 z (z / 1073741824) * 13787848793156543929)) (IntKind.u64.wrap (bits BinOp.xor IntKind.u64 z (z / 1073741824) * 13787848793156543929) / 134217728) * 10723151780598845931)).1
  have h4 := (wrap_u64_bd (bits BinOp.xor IntKind.u64 (IntKind.u64.wrap (bits BinOp.xor IntKind.u64 z (z / 1073741824) * 13787848793156543929)) (IntKind.u64.wrap (bits BinOp.xor IntKind.u64 z (z / 1073741824) * 13787848793156543929) / 134217728) * 10723151780598845931)).2
  go_enter Try.func96, Try.ntmps96
  go_wp2
  go_ret
  exact ⟨rfl, rfl⟩
def mix (a b : Int) : Int := scr (w64 (11400714819323198485 + x64 (scr (w64 (a + 11400714819323198485))) b))
theorem mix_bd (a b : Int) : U64 (mix a b) := scr_bd _
theorem mix_any (a b : Int) (w : World) (ha : U64 a) (hb : U64 b) :
    Calls Try.prog 35 #[.int .u64 a, .int .u64 b] w fun e w' => e = .returned (.int .u64 (mix a b)) ∧ w = w' := by
  unfold U64 at ha hb
  go_enter Try.func35, Try.ntmps35
  go_wp2_with fail
  refine (scr_any _ _ (w64_bd _)).mono ?_
  rintro e w1 ⟨rfl, rfl⟩
  go_wp2_with fail
  refine (scr_any _ _ (w64_bd _)).mono ?_
  rintro e w1 ⟨rfl, rfl⟩
  go_wp2_with fail
  go_ret
  exact ⟨rfl, rfl⟩
theorem rmix_any (a b : Int) (w : World) (ha : U64 a) (hb : U64 b) :
    Calls Try.prog 93 #[.int .u64 a, .int .u64 b] w fun e w' => e = .returned (.int .u64 (mix a b)) ∧ w = w' := by
  unfold U64 at ha hb
  go_enter Try.func93, Try.ntmps93
  go_wp2_with fail
  refine (rscr_any _ _ (w64_bd _)).mono ?_
  rintro e w1 ⟨rfl, rfl⟩
  go_wp2_with fail
  refine (rscr_any _ _ (w64_bd _)).mono ?_
  rintro e w1 ⟨rfl, rfl⟩
  go_wp2_with fail
  go_ret
  exact ⟨by unfold mix w64 x64; rw [Int.add_comm (11400714819323198485 : Int)]; rfl, rfl⟩
end Go.Proofs.Ytoncfogihiapiaa
