/- Merged texts (SkB). -/
import Derived.Shelf.SlicesQ.IndexFunc
import Derived.Ground.SlgfProg
import Derived.Lib.SliceRun
import Derived.Test.YtceaeiaoanhlnaaGreatDoorZcb
namespace Go.Proofs.YtceaeiaoanhlnaaGreatDoor
open Go.ChangeShapes Go.WideShapes Go.ChangeAt Go.RowKit Go.Lib Go.Shelf
def Tryz.lConE_ren : Go.Shelf.Ren := ⟨fun | 8 => 73 | 6 => 96 | n => n, fun | 22 => 24 | 23 => 87 | 25 => 122 | 4 => 4 | 3 => 3 | 0 => 0 | n => n, fun | n => n⟩
theorem Tryz.lConE : Go.Proofs.SlLaysH0.n8 Tryz.prog Tryz.lConE_ren := {
  mixed := by kernel_rfl
  f6 := ⟨Tryz.f96.name, by decide, Tryz.func96.trans (congrArg some (by kernel_rfl))⟩
  f8 := ⟨Tryz.f73.name, by decide, Tryz.func73.trans (congrArg some (by kernel_rfl))⟩
  t0 := Tryz.underlying0
  a0 := Tryz.isAgg0
  z0 := Tryz.sizeOf0
  v0 := Tryz.zeroValue0
  t3 := Tryz.underlying3
  a3 := Tryz.isAgg3
  z3 := Tryz.sizeOf3
  v3 := Tryz.zeroValue3
  t4 := Tryz.underlying4
  a4 := Tryz.isAgg4
  z4 := Tryz.sizeOf4
  v4 := Tryz.zeroValue4
  t22 := Tryz.underlying24
  a22 := Tryz.isAgg24
  z22 := Tryz.sizeOf24
  v22 := Tryz.zeroValue24
  t25 := Tryz.underlying122
  a25 := Tryz.isAgg122
  z25 := Tryz.sizeOf122
  v25 := Tryz.zeroValue122 }
instance : Inhabited EndD := ⟨⟨0, 0, 0⟩⟩
instance : Inhabited SvcD := ⟨⟨0, .slice none 0 0, [], 0, 0, 0, 0, 0⟩⟩
theorem idx0_End (a : Option Addr) (c g : Nat) (lb : Array Value) (w : World) : Calls Tryz.prog 96 #[.slice a 0 c, .func (.func g) #[] lb] w fun e w' => e = .returned (.int .i64 (-1)) ∧ w = w' := by
 go_enter Tryz.func96, Tryz.ntmps96
 go_wp2_with fail
 go_loopw [8] (fun v8 wr => v8 = .int .i64 0 ∧ wr = w) (fun _ _ => 0)
 case atStart => exact ⟨rfl, rfl⟩
 case round =>
  obtain ⟨rfl, rfl⟩ := hrel
  go_wp2
  go_ret
  exact ⟨rfl, rfl⟩
theorem conE_any (E : List EndD) (p : EndD → Bool) (g : Nat) (lb : Array Value) (eg : ∀ args w, (callFunc g args).run Tryz.prog w = .ok (.enter g args) w) (v : Value) (w : World) (hs : Ends w v E) (hp : PredBelow Tryz.prog g lb (fun x => .agg (encE x).toArray) p w) :
  Calls Tryz.prog 73 #[v, .func (.func g) #[] lb] w fun e w' => e = .returned (.bool (E.any p)) ∧ Ext w w' := by
 obtain ⟨hl, a, c, rfl⟩ := hs.shape
 have hcap := hs.cap
 by_cases h0 : E = []
 ·subst h0
  clear hs hp
  go_enter Tryz.func73, Tryz.ntmps73
  go_wp2_with (go_at_call 96; refine (idx0_End _ _ _ _ _).mono ?_; rintro e w' ⟨rfl, rfl⟩)
  go_ret
  exact ⟨by simp, Below.refl _ _⟩
 ·have hn : 0 < E.length := List.length_pos_iff.2 h0
  obtain ⟨b, off, rfl, hb⟩ := hs.some hn
  obtain ⟨_, a', c', hv, _, hc⟩ := hs
  cases hv
  have hcc : ∀ j, j < E.length → ∀ i u, (encE E[j]!)[i]? = some u → w.cell? ⟨b, off + j * 3 + i, none⟩ = some u := fun j hj i u hu => by
   obtain ⟨b', off', ha, _, h⟩ := hc j E[j] (List.getElem?_eq_getElem hj)
   cases ha
   rw [getElem!_pos E j hj] at hu
   exact h i u hu
  have := AnyQ.slices_ContainsFunc Tryz.lConE 3 Tryz.isAgg87 Tryz.sizeOf87 encE encE_len p g lb eg b off E.length c E w hp (Nat.le_refl _) (by omega) hb hcc
  rw [List.take_length] at this
  exact this
end Go.Proofs.YtceaeiaoanhlnaaGreatDoor
