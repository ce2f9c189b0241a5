
/- match.rank, match.Cmp. -/
import Derived.Shelf.Strings.Count
import Derived.Test.YtlaaapfpchnmeaaGreatDoorZm
namespace Go.Proofs
open Go.Shelf
def Tryz.lCount_ren : Go.Shelf.Ren := ⟨fun | 138 => 51 | 195 => 83 | 218 => 84 | 143 => 85 | 219 => 101 | 217 => 108 | 225 => 109 | 224 => 110 | 267 => 111 | 266 => 115 | 314 => 116 | n => n, fun | 9 => 9 | 3 => 3 | 4 => 4 | 5 => 5 | 0 => 0 | 46 => 87 | 146 => 151 | 51 => 115 | n => n, fun | 1 => 0 | n => n⟩
theorem Tryz.lCount : Go.Proofs.Lays.n138 Tryz.prog Tryz.lCount_ren := {
  mixed := by kernel_rfl
  f138 := Tryz.func51.trans (congrArg some (by kernel_rfl))
  f143 := Tryz.func85.trans (congrArg some (by kernel_rfl))
  f195 := Tryz.func83.trans (congrArg some (by kernel_rfl))
  f217 := Tryz.func108.trans (congrArg some (by kernel_rfl))
  f218 := Tryz.func84.trans (congrArg some (by kernel_rfl))
  f219 := Tryz.func101.trans (congrArg some (by kernel_rfl))
  f224 := Tryz.func110.trans (congrArg some (by kernel_rfl))
  f225 := Tryz.func109.trans (congrArg some (by kernel_rfl))
  f266 := Tryz.func115.trans (congrArg some (by kernel_rfl))
  f267 := Tryz.func111.trans (congrArg some (by kernel_rfl))
  f314 := Tryz.func116.trans (congrArg some (by kernel_rfl))
  t0 := Tryz.underlying0
  a0 := Tryz.isAgg0
  z0 := Tryz.sizeOf0
  v0 := Tryz.zeroValue0
  t3 := Tryz.underlying3
  a3 := Tryz.isAgg3
  z3 := Tryz.sizeOf3
  v3 := Tryz.zeroValue3
  t4 := Tryz.underlying4
  a4 := Tryz.isAgg4
  z4 := Tryz.sizeOf4
  v4 := Tryz.zeroValue4
  t5 := Tryz.underlying5
  a5 := Tryz.isAgg5
  z5 := Tryz.sizeOf5
  v5 := Tryz.zeroValue5
  t9 := Tryz.underlying9
  a9 := Tryz.isAgg9
  z9 := Tryz.sizeOf9
  v9 := Tryz.zeroValue9
  t46 := Tryz.underlying87
  a46 := Tryz.isAgg87
  z46 := Tryz.sizeOf87
  v46 := Tryz.zeroValue87
  t51 := Tryz.underlying115
  a51 := Tryz.isAgg115
  z51 := Tryz.sizeOf115
  v51 := Tryz.zeroValue115
  t146 := Tryz.underlying151
  a146 := Tryz.isAgg151
  z146 := Tryz.sizeOf151
  v146 := Tryz.zeroValue151
  g1 := by kernel_rfl }
def Tryz.lCmpI_ren : Go.Shelf.Ren := ⟨fun | 122 => 35 | 215 => 52 | n => n, fun | 3 => 3 | 4 => 4 | n => n, fun | n => n⟩
theorem Tryz.lCmpI : Go.Proofs.Lays.n122 Tryz.prog Tryz.lCmpI_ren := {
  mixed := by kernel_rfl
  f122 := Tryz.func35.trans (congrArg some (by kernel_rfl))
  f215 := Tryz.func52.trans (congrArg some (by kernel_rfl))
  t3 := Tryz.underlying3
  a3 := Tryz.isAgg3
  z3 := Tryz.sizeOf3
  v3 := Tryz.zeroValue3
  t4 := Tryz.underlying4
  a4 := Tryz.isAgg4
  z4 := Tryz.sizeOf4
  v4 := Tryz.zeroValue4 }
end Go.Proofs
namespace Go.Proofs.YtlaaapfpchnmeaaGreatDoor
open Go.ChangeShapes Go.WideShapes Go.ChangeAt Go.RowKit Go.Lib Go.Shelf
def rk0 (ex : Bool) : Int := if ex then 1 else 0
def rk1 (p : List UInt8) : Int := if p = [47] then 0 else (Lib.countByte p 47 : Int)
set_option maxRecDepth 100000 in
set_option maxHeartbeats 2000000 in
theorem rank_any (mp : ByteArray) (ex : Bool) (a : Option Addr) (n c : Nat) (w : World) :
    Calls Tryz.prog 34 #[.agg #[.string mp, .bool ex, .slice a n c]] w fun e w' => e = .returned (.agg #[.int .i64 (rk0 ex), .int .i64 (rk1 (bl mp)), .int .i64 n]) ∧ Ext w w' := by
  have hcnt : ∀ u : World, Calls Tryz.prog 51 #[.string mp, .string ⟨#[47]⟩] u fun e w' => e = .returned (.int .i64 (Lib.countByte mp.data.toList 47)) ∧ u = w' := fun u => (Any.strings_Count_one Tryz.lCount mp 47 u).mono (fun _ _ h => ⟨h.1, h.2.symm⟩)
  obtain ⟨q, hq⟩ : ∃ q : Nat, Lib.countByte mp.data.toList 47 = q := ⟨_, rfl⟩
  have hr : rk1 (bl mp) = if bl mp = [47] then 0 else (q : Int) := by unfold rk1; rw [← hq]; rfl
  simp only [hq] at hcnt
  have HCNT := hide hcnt
  have HR := hide hr
  have hcx : ∀ X, Ext ((w.alloc (.cells #[.string mp, .bool ex, .slice a n c] 43)).alloc (.cells #[.int .i64 0, .int .i64 0, .int .i64 0] 74)) X → X.cell? ⟨w.heap.size, 0, none⟩ = some (.string mp) ∧ X.cell? ⟨w.heap.size, 2, none⟩ = some (.slice a n c) := fun X hX => ⟨(hX.cell (p := ⟨w.heap.size, 0, none⟩) (by simp; omega)).trans (by go_simp), (hX.cell (p := ⟨w.heap.size, 2, none⟩) (by simp; omega)).trans (by go_simp)⟩
  have HCX := hide hcx
  clear hcnt hr hcx hq
  have hfin : ∀ (i q : Int), rk1 (bl mp) = q → i = rk0 ex → ∀ w9, Ext w w9 → (fun (e : Ending) (w' : World) => e = .returned (.agg #[.int .i64 (rk0 ex), .int .i64 (rk1 (bl mp)), .int .i64 n]) ∧ Ext w w') (.returned (.agg #[.int .i64 i, .int .i64 q, .int .i64 n])) w9 := by
    rintro i q rfl rfl w9 h9
    exact ⟨rfl, h9⟩
  have HF := hide hfin
  clear hfin
  by_cases hp : bl mp = [47]
  · have hb : (mp.toList == [47]) = true := by rw [toL]; show (bl mp == [47]) = true; simpa using hp
    have hr := HR.out
    rw [if_pos hp] at hr
    have HR := hide hr
    clear hr hp
    cases ex with
    | true =>
      go_enter Tryz.func34, Tryz.ntmps34
      go_wp2_with fail
      go_region_held3 (fun w' => w'.cell? ⟨w.heap.size, 0, none⟩ = some (.string mp) ∧ w'.cell? ⟨w.heap.size, 2, none⟩ = some (.slice a n c))
        (first
          | exact HCX.out _ (Below.refl _ _)
          | exact HCX.out _ (Below.drew (Below.refl _ _))
          | exact HCX.out _ (Below.drew ((Below.refl _ _).alloc (Nat.le_refl _) _))
          | exact HCX.out _ (Below.drew (((Below.refl _ _).alloc (Nat.le_refl _) _).setCell (Nat.le_refl _) _)))
        (first | (go_at_call 51; refine (HCNT.out _).mono ?_; rintro e w8 ⟨rfl, rfl⟩))
      all_goals go_wp2_with fail
      all_goals
        refine bodyPost_ret (v := .agg #[.int .i64 1, .int .i64 0, .int .i64 n]) (by simp [results, Tryz.results34, go_sem]) rfl (HF.out 1 0 HR.out rfl _ ?_)
        exact ((((Below.refl _ _).alloc (Nat.le_refl _) _).alloc (by simp) _).alloc (by simp; omega) _).drew
    | false =>
      go_enter Tryz.func34, Tryz.ntmps34
      go_wp2_with fail
      go_region_held3 (fun w' => w'.cell? ⟨w.heap.size, 0, none⟩ = some (.string mp) ∧ w'.cell? ⟨w.heap.size, 2, none⟩ = some (.slice a n c))
        (first
          | exact HCX.out _ (Below.refl _ _)
          | exact HCX.out _ (Below.drew (Below.refl _ _))
          | exact HCX.out _ (Below.drew ((Below.refl _ _).alloc (Nat.le_refl _) _))
          | exact HCX.out _ (Below.drew (((Below.refl _ _).alloc (Nat.le_refl _) _).setCell (Nat.le_refl _) _)))
        (first | (go_at_call 51; refine (HCNT.out _).mono ?_; rintro e w8 ⟨rfl, rfl⟩))
      all_goals go_wp2_with fail
      all_goals
        refine bodyPost_ret (v := .agg #[.int .i64 0, .int .i64 0, .int .i64 n]) (by simp [results, Tryz.results34, go_sem]) rfl (HF.out 0 0 HR.out rfl _ ?_)
        exact ((((Below.refl _ _).alloc (Nat.le_refl _) _).alloc (by simp) _).alloc (by simp; omega) _).drew
  · have hb : (mp.toList == [47]) = false := by rw [toL]; show (bl mp == [47]) = false; simpa using hp
    have hr := HR.out
    rw [if_neg hp] at hr
    have HR := hide hr
    clear hr hp
    cases ex with
    | true =>
      go_enter Tryz.func34, Tryz.ntmps34
      go_wp2_with fail
      go_region_held3 (fun w' => w'.cell? ⟨w.heap.size, 0, none⟩ = some (.string mp) ∧ w'.cell? ⟨w.heap.size, 2, none⟩ = some (.slice a n c))
        (first
          | exact HCX.out _ (Below.refl _ _)
          | exact HCX.out _ (Below.drew (Below.refl _ _))
          | exact HCX.out _ (Below.drew ((Below.refl _ _).alloc (Nat.le_refl _) _))
          | exact HCX.out _ (Below.drew (((Below.refl _ _).alloc (Nat.le_refl _) _).setCell (Nat.le_refl _) _)))
        (first | (go_at_call 51; refine (HCNT.out _).mono ?_; rintro e w8 ⟨rfl, rfl⟩))
      all_goals go_wp2_with fail
      all_goals
        refine bodyPost_ret (v := .agg #[.int .i64 1, .int .i64 q, .int .i64 n]) (by simp [results, Tryz.results34, go_sem]) rfl (HF.out 1 q HR.out rfl _ ?_)
        exact ((((Below.refl _ _).alloc (Nat.le_refl _) _).alloc (by simp) _).alloc (by simp; omega) _).drew
    | false =>
      go_enter Tryz.func34, Tryz.ntmps34
      go_wp2_with fail
      go_region_held3 (fun w' => w'.cell? ⟨w.heap.size, 0, none⟩ = some (.string mp) ∧ w'.cell? ⟨w.heap.size, 2, none⟩ = some (.slice a n c))
        (first
          | exact HCX.out _ (Below.refl _ _)
          | exact HCX.out _ (Below.drew (Below.refl _ _))
          | exact HCX.out _ (Below.drew ((Below.refl _ _).alloc (Nat.le_refl _) _))
          | exact HCX.out _ (Below.drew (((Below.refl _ _).alloc (Nat.le_refl _) _).setCell (Nat.le_refl _) _)))
        (first | (go_at_call 51; refine (HCNT.out _).mono ?_; rintro e w8 ⟨rfl, rfl⟩))
      all_goals go_wp2_with fail
      all_goals
        refine bodyPost_ret (v := .agg #[.int .i64 0, .int .i64 q, .int .i64 n]) (by simp [results, Tryz.results34, go_sem]) rfl (HF.out 0 q HR.out rfl _ ?_)
        exact ((((Below.refl _ _).alloc (Nat.le_refl _) _).alloc (by simp) _).alloc (by simp; omega) _).drew
end Go.Proofs.YtlaaapfpchnmeaaGreatDoor
