/- Merged texts (SkB). -/
import Derived.Shelf.SlicesQ.IndexFunc
import Derived.Ground.SlgfProg
import Derived.Lib.SliceRun
import Derived.Test.YtceaeiaoanhlnaaDoorZcb
namespace Go.Proofs.YtceaeiaoanhlnaaDoor
open Go.ChangeShapes Go.WideShapes Go.ChangeAt Go.RowKit Go.Lib Go.Shelf
def Tryd.lConE_ren : Go.Shelf.Ren := ⟨fun | 8 => 96 | 6 => 124 | n => n, fun | 22 => 55 | 23 => 116 | 25 => 160 | 4 => 4 | 3 => 3 | 0 => 0 | n => n, fun | n => n⟩
theorem Tryd.lConE : Go.Proofs.SlLaysH0.n8 Tryd.prog Tryd.lConE_ren := {
  mixed := by kernel_rfl
  f6 := ⟨Tryd.f124.name, by decide, Tryd.func124.trans (congrArg some (by kernel_rfl))⟩
  f8 := ⟨Tryd.f96.name, by decide, Tryd.func96.trans (congrArg some (by kernel_rfl))⟩
  t0 := Tryd.underlying0
  a0 := Tryd.isAgg0
  z0 := Tryd.sizeOf0
  v0 := Tryd.zeroValue0
  t3 := Tryd.underlying3
  a3 := Tryd.isAgg3
  z3 := Tryd.sizeOf3
  v3 := Tryd.zeroValue3
  t4 := Tryd.underlying4
  a4 := Tryd.isAgg4
  z4 := Tryd.sizeOf4
  v4 := Tryd.zeroValue4
  t22 := Tryd.underlying55
  a22 := Tryd.isAgg55
  z22 := Tryd.sizeOf55
  v22 := Tryd.zeroValue55
  t25 := Tryd.underlying160
  a25 := Tryd.isAgg160
  z25 := Tryd.sizeOf160
  v25 := Tryd.zeroValue160 }
instance : Inhabited EndD := ⟨⟨0, 0, 0⟩⟩
instance : Inhabited SvcD := ⟨⟨0, .slice none 0 0, [], 0, 0, 0, 0, 0⟩⟩
theorem idx0_End (a : Option Addr) (c g : Nat) (lb : Array Value) (w : World) : Calls Tryd.prog 124 #[.slice a 0 c, .func (.func g) #[] lb] w fun e w' => e = .returned (.int .i64 (-1)) ∧ w = w' := by
 go_enter Tryd.func124, Tryd.ntmps124
 go_wp2_with fail
 go_loopw [8] (fun v8 wr => v8 = .int .i64 0 ∧ wr = w) (fun _ _ => 0)
 case atStart => exact ⟨rfl, rfl⟩
 case round =>
  obtain ⟨rfl, rfl⟩ := hrel
  go_wp2
  go_ret
  exact ⟨rfl, rfl⟩
theorem conE_any (E : List EndD) (p : EndD → Bool) (g : Nat) (lb : Array Value) (eg : ∀ args w, (callFunc g args).run Tryd.prog w = .ok (.enter g args) w) (v : Value) (w : World) (hs : Ends w v E) (hp : PredBelow Tryd.prog g lb (fun x => .agg (encE x).toArray) p w) :
  Calls Tryd.prog 96 #[v, .func (.func g) #[] lb] w fun e w' => e = .returned (.bool (E.any p)) ∧ Ext w w' := by
 obtain ⟨hl, a, c, rfl⟩ := hs.shape
 have hcap := hs.cap
 by_cases h0 : E = []
 ·subst h0
  clear hs hp
  go_enter Tryd.func96, Tryd.ntmps96
  go_wp2_with (go_at_call 124; refine (idx0_End _ _ _ _ _).mono ?_; rintro e w' ⟨rfl, rfl⟩)
  go_ret
  exact ⟨by simp, Below.refl _ _⟩
 ·have hn : 0 < E.length := List.length_pos_iff.2 h0
  obtain ⟨b, off, rfl, hb⟩ := hs.some hn
  obtain ⟨_, a', c', hv, _, hc⟩ := hs
  cases hv
  have hcc : ∀ j, j < E.length → ∀ i u, (encE E[j]!)[i]? = some u → w.cell? ⟨b, off + j * 3 + i, none⟩ = some u := fun j hj i u hu => by
   obtain ⟨b', off', ha, _, h⟩ := hc j E[j] (List.getElem?_eq_getElem hj)
   cases ha
   rw [getElem!_pos E j hj] at hu
   exact h i u hu
  have := AnyQ.slices_ContainsFunc Tryd.lConE 3 Tryd.isAgg116 Tryd.sizeOf116 encE encE_len p g lb eg b off E.length c E w hp (Nat.le_refl _) (by omega) hb hcc
  rw [List.take_length] at this
  exact this
end Go.Proofs.YtceaeiaoanhlnaaDoor
