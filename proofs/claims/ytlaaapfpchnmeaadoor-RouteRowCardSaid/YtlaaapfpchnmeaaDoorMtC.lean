/- match.rank, match.Cmp. -/
import Derived.Shelf.Strings.Count
import Derived.Test.YtlaaapfpchnmeaaDoorZm
namespace Go.Proofs
open Go.Shelf
def Tryd.lCount_ren : Go.Shelf.Ren := ⟨fun | 138 => 58 | 195 => 75 | 218 => 76 | 143 => 77 | 219 => 88 | 217 => 95 | 225 => 96 | 224 => 97 | 267 => 98 | 266 => 101 | 314 => 102 | n => n, fun | 9 => 9 | 3 => 3 | 4 => 4 | 5 => 5 | 0 => 0 | 46 => 120 | 146 => 131 | 51 => 130 | n => n, fun | 1 => 0 | n => n⟩
theorem Tryd.lCount : Go.Proofs.Lays.n138 Tryd.prog Tryd.lCount_ren := {
  mixed := by kernel_rfl
  f138 := Tryd.func58.trans (congrArg some (by kernel_rfl))
  f143 := Tryd.func77.trans (congrArg some (by kernel_rfl))
  f195 := Tryd.func75.trans (congrArg some (by kernel_rfl))
  f217 := Tryd.func95.trans (congrArg some (by kernel_rfl))
  f218 := Tryd.func76.trans (congrArg some (by kernel_rfl))
  f219 := Tryd.func88.trans (congrArg some (by kernel_rfl))
  f224 := Tryd.func97.trans (congrArg some (by kernel_rfl))
  f225 := Tryd.func96.trans (congrArg some (by kernel_rfl))
  f266 := Tryd.func101.trans (congrArg some (by kernel_rfl))
  f267 := Tryd.func98.trans (congrArg some (by kernel_rfl))
  f314 := Tryd.func102.trans (congrArg some (by kernel_rfl))
  t0 := Tryd.underlying0
  a0 := Tryd.isAgg0
  z0 := Tryd.sizeOf0
  v0 := Tryd.zeroValue0
  t3 := Tryd.underlying3
  a3 := Tryd.isAgg3
  z3 := Tryd.sizeOf3
  v3 := Tryd.zeroValue3
  t4 := Tryd.underlying4
  a4 := Tryd.isAgg4
  z4 := Tryd.sizeOf4
  v4 := Tryd.zeroValue4
  t5 := Tryd.underlying5
  a5 := Tryd.isAgg5
  z5 := Tryd.sizeOf5
  v5 := Tryd.zeroValue5
  t9 := Tryd.underlying9
  a9 := Tryd.isAgg9
  z9 := Tryd.sizeOf9
  v9 := Tryd.zeroValue9
  t46 := Tryd.underlying120
  a46 := Tryd.isAgg120
  z46 := Tryd.sizeOf120
  v46 := Tryd.zeroValue120
  t51 := Tryd.underlying130
  a51 := Tryd.isAgg130
  z51 := Tryd.sizeOf130
  v51 := Tryd.zeroValue130
  t146 := Tryd.underlying131
  a146 := Tryd.isAgg131
  z146 := Tryd.sizeOf131
  v146 := Tryd.zeroValue131
  g1 := by kernel_rfl }
def Tryd.lCmpI_ren : Go.Shelf.Ren := ⟨fun | 122 => 36 | 215 => 59 | n => n, fun | 3 => 3 | 4 => 4 | n => n, fun | n => n⟩
theorem Tryd.lCmpI : Go.Proofs.Lays.n122 Tryd.prog Tryd.lCmpI_ren := {
  mixed := by kernel_rfl
  f122 := Tryd.func36.trans (congrArg some (by kernel_rfl))
  f215 := Tryd.func59.trans (congrArg some (by kernel_rfl))
  t3 := Tryd.underlying3
  a3 := Tryd.isAgg3
  z3 := Tryd.sizeOf3
  v3 := Tryd.zeroValue3
  t4 := Tryd.underlying4
  a4 := Tryd.isAgg4
  z4 := Tryd.sizeOf4
  v4 := Tryd.zeroValue4 }
end Go.Proofs
namespace Go.Proofs.YtlaaapfpchnmeaaDoor
open Go.ChangeShapes Go.WideShapes Go.ChangeAt Go.RowKit Go.Lib Go.Shelf
def rk0 (ex : Bool) : Int := if ex then 1 else 0
def rk1 (p : List UInt8) : Int := if p = [47] then 0 else (Lib.countByte p 47 : Int)
set_option maxRecDepth 100000 in
set_option maxHeartbeats 2000000 in
theorem rank_any (mp : ByteArray) (ex : Bool) (a : Option Addr) (n c : Nat) (w : World) :
    Calls Tryd.prog 35 #[.agg #[.string mp, .bool ex, .slice a n c]] w fun e w' => e = .returned (.agg #[.int .i64 (rk0 ex), .int .i64 (rk1 (bl mp)), .int .i64 n]) ∧ Ext w w' := by
  have hcnt : ∀ u : World, Calls Tryd.prog 58 #[.string mp, .string ⟨#[47]⟩] u fun e w' => e = .returned (.int .i64 (Lib.countByte mp.data.toList 47)) ∧ u = w' := fun u => (Any.strings_Count_one Tryd.lCount mp 47 u).mono (fun _ _ h => ⟨h.1, h.2.symm⟩)
  obtain ⟨q, hq⟩ : ∃ q : Nat, Lib.countByte mp.data.toList 47 = q := ⟨_, rfl⟩
  have hr : rk1 (bl mp) = if bl mp = [47] then 0 else (q : Int) := by unfold rk1; rw [← hq]; rfl
  simp only [hq] at hcnt
  have HCNT := hide hcnt
  have HR := hide hr
  have hcx : ∀ X, Ext ((w.alloc (.cells #[.string mp, .bool ex, .slice a n c] 28)).alloc (.cells #[.int .i64 0, .int .i64 0, .int .i64 0] 77)) X → X.cell? ⟨w.heap.size, 0, none⟩ = some (.string mp) ∧ X.cell? ⟨w.heap.size, 2, none⟩ = some (.slice a n c) := fun X hX => ⟨(hX.cell (p := ⟨w.heap.size, 0, none⟩) (by simp; omega)).trans (by go_simp), (hX.cell (p := ⟨w.heap.size, 2, none⟩) (by simp; omega)).trans (by go_simp)⟩
  have HCX := hide hcx
  clear hcnt hr hcx hq
  have hfin : ∀ (i q : Int), rk1 (bl mp) = q → i = rk0 ex → ∀ w9, Ext w w9 → (fun (e : Ending) (w' : World) => e = .returned (.agg #[.int .i64 (rk0 ex), .int .i64 (rk1 (bl mp)), .int .i64 n]) ∧ Ext w w') (.returned (.agg #[.int .i64 i, .int .i64 q, .int .i64 n])) w9 := by
    rintro i q rfl rfl w9 h9
    exact ⟨rfl, h9⟩
  have HF := hide hfin
  clear hfin
  by_cases hp : bl mp = [47]
  · have hb : (mp.toList == [47]) = true := by rw [toL]; show (bl mp == [47]) = true; simpa using hp
    have hr := HR.out
    rw [if_pos hp] at hr
    have HR := hide hr
    clear hr hp
    cases ex with
    | true =>
      go_enter Tryd.func35, Tryd.ntmps35
      go_wp2_with fail
      go_region_held3 (fun w' => w'.cell? ⟨w.heap.size, 0, none⟩ = some (.string mp) ∧ w'.cell? ⟨w.heap.size, 2, none⟩ = some (.slice a n c))
        (first
          | exact HCX.out _ (Below.refl _ _)
          | exact HCX.out _ (Below.drew (Below.refl _ _))
          | exact HCX.out _ (Below.drew ((Below.refl _ _).alloc (Nat.le_refl _) _))
          | exact HCX.out _ (Below.drew (((Below.refl _ _).alloc (Nat.le_refl _) _).setCell (Nat.le_refl _) _)))
        (first | (go_at_call 58; refine (HCNT.out _).mono ?_; rintro e w8 ⟨rfl, rfl⟩))
      all_goals go_wp2_with fail
      all_goals
        refine bodyPost_ret (v := .agg #[.int .i64 1, .int .i64 0, .int .i64 n]) (by simp [results, Tryd.results35, go_sem]) rfl (HF.out 1 0 HR.out rfl _ ?_)
        exact ((((Below.refl _ _).alloc (Nat.le_refl _) _).alloc (by simp) _).alloc (by simp; omega) _).drew
    | false =>
      go_enter Tryd.func35, Tryd.ntmps35
      go_wp2_with fail
      go_region_held3 (fun w' => w'.cell? ⟨w.heap.size, 0, none⟩ = some (.string mp) ∧ w'.cell? ⟨w.heap.size, 2, none⟩ = some (.slice a n c))
        (first
          | exact HCX.out _ (Below.refl _ _)
          | exact HCX.out _ (Below.drew (Below.refl _ _))
          | exact HCX.out _ (Below.drew ((Below.refl _ _).alloc (Nat.le_refl _) _))
          | exact HCX.out _ (Below.drew (((Below.refl _ _).alloc (Nat.le_refl _) _).setCell (Nat.le_refl _) _)))
        (first | (go_at_call 58; refine (HCNT.out _).mono ?_; rintro e w8 ⟨rfl, rfl⟩))
      all_goals go_wp2_with fail
      all_goals
        refine bodyPost_ret (v := .agg #[.int .i64 0, .int .i64 0, .int .i64 n]) (by simp [results, Tryd.results35, go_sem]) rfl (HF.out 0 0 HR.out rfl _ ?_)
        exact ((((Below.refl _ _).alloc (Nat.le_refl _) _).alloc (by simp) _).alloc (by simp; omega) _).drew
  · have hb : (mp.toList == [47]) = false := by rw [toL]; show (bl mp == [47]) = false; simpa using hp
    have hr := HR.out
    rw [if_neg hp] at hr
    have HR := hide hr
    clear hr hp
    cases ex with
    | true =>
      go_enter Tryd.func35, Tryd.ntmps35
      go_wp2_with fail
      go_region_held3 (fun w' => w'.cell? ⟨w.heap.size, 0, none⟩ = some (.string mp) ∧ w'.cell? ⟨w.heap.size, 2, none⟩ = some (.slice a n c))
        (first
          | exact HCX.out _ (Below.refl _ _)
          | exact HCX.out _ (Below.drew (Below.refl _ _))
          | exact HCX.out _ (Below.drew ((Below.refl _ _).alloc (Nat.le_refl _) _))
          | exact HCX.out _ (Below.drew (((Below.refl _ _).alloc (Nat.le_refl _) _).setCell (Nat.le_refl _) _)))
        (first | (go_at_call 58; refine (HCNT.out _).mono ?_; rintro e w8 ⟨rfl, rfl⟩))
      all_goals go_wp2_with fail
      all_goals
        refine bodyPost_ret (v := .agg #[.int .i64 1, .int .i64 q, .int .i64 n]) (by simp [results, Tryd.results35, go_sem]) rfl (HF.out 1 q HR.out rfl _ ?_)
        exact ((((Below.refl _ _).alloc (Nat.le_refl _) _).alloc (by simp) _).alloc (by simp; omega) _).drew
    | false =>
      go_enter Tryd.func35, Tryd.ntmps35
      go_wp2_with fail
      go_region_held3 (fun w' => w'.cell? ⟨w.heap.size, 0, none⟩ = some (.string mp) ∧ w'.cell? ⟨w.heap.size, 2, none⟩ = some (.slice a n c))
        (first
          | exact HCX.out _ (Below.refl _ _)
          | exact HCX.out _ (Below.drew (Below.refl _ _))
          | exact HCX.out _ (Below.drew ((Below.refl _ _).alloc (Nat.le_refl _) _))
          | exact HCX.out _ (Below.drew (((Below.refl _ _).alloc (Nat.le_refl _) _).setCell (Nat.le_refl _) _)))
        (first | (go_at_call 58; refine (HCNT.out _).mono ?_; rintro e w8 ⟨rfl, rfl⟩))
      all_goals go_wp2_with fail
      all_goals
        refine bodyPost_ret (v := .agg #[.int .i64 0, .int .i64 q, .int .i64 n]) (by simp [results, Tryd.results35, go_sem]) rfl (HF.out 0 q HR.out rfl _ ?_)
        exact ((((Below.refl _ _).alloc (Nat.le_refl _) _).alloc (by simp) _).alloc (by simp; omega) _).drew
end Go.Proofs.YtlaaapfpchnmeaaDoor
