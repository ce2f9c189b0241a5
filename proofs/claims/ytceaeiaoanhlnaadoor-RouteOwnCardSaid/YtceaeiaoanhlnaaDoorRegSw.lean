import Derived.Test.YtceaeiaoanhlnaaDoorZrww
namespace Go.Proofs.YtceaeiaoanhlnaaDoor
open Go.ChangeShapes Go.WideShapes Go.ChangeAt Go.RowKit
def evX (n : Nat) (x : Nat → Value) : Operand → Value
 | .tmp t => if t < n then x t else undef
 | .const v => v
 | .global g => .pointer (some ⟨g, 0, none⟩)
 | .func f => .func (.func f) #[] #[]
theorem frame_get (n : Nat) (x : Nat → Value) (t : Nat) (h : t < n) : (frameOf n x)[t]? = some (x t) := by
 simp [frameOf, h]
theorem ev_frame (n : Nat) (x : Nat → Value) (ds : List Deferred) : (⟨frameOf n x, ds⟩ : Act).eval = evX n x := by
 funext o
 cases o with
 | tmp t =>
  show (frameOf n x).getD t undef = if t < n then x t else undef
  by_cases h : t < n
  ·rw [if_pos h, Array.getD_eq_getD_getElem?, frame_get n x t h]
   rfl
  ·have hs : (frameOf n x).size ≤ t := by
    simp only [frameOf, List.size_toArray, List.length_map, List.length_range]
    exact Nat.le_of_not_lt h
   rw [if_neg h, Array.getD_eq_getD_getElem?, Array.getElem?_eq_none hs]
   rfl
 | const v => rfl
 | global g => rfl
 | func f => rfl
theorem ev_tmp {n : Nat} {x : Nat → Value} {t : Nat} {v : Value} (e : x t = v) (h : t < n := by decide) : evX n x (.tmp t) = v := by
 show (if t < n then x t else undef) = v
 rw [if_pos h, e]
theorem want_none {o : Oper} {y : Nat → Option Bool} (h : o.guard = none) : Region.wanted o y = true := by
 unfold Region.wanted
 rw [h]
theorem want_some {n : Nat} {x : Nat → Value} {ops : Array Oper} {o : Oper} {j d : Nat} {b : Bool} (hg : o.guard = some (j, b)) (hd : dstB ops j = some d) (e : x d = .bool b) (h : d < n := by decide) : Region.wanted o (yielded ops (frameOf n x)) = true := by
 unfold Region.wanted
 rw [hg]
 show (yielded ops (frameOf n x) j == some b) = true
 have h1 : (ops[j]?).bind (·.dst) = some d := hd
 unfold yielded
 rw [h1]
 show ((match (frameOf n x)[d]? with | some (.bool b) => some b | _ => none) == some b) = true
 rw [frame_get n x d h, e]
 simp
section
variable {P : Program} {ops : Array Oper} {Q : Exit → Act → World → Prop} {i : Nat} {K : Act → World → Prop} {n : Nat} {x : Nat → Value} {ds : List Deferred} {w : World} {o : Oper}
theorem arm_wp (ho : ops[i]? = some o) (hw : Region.wanted o (yielded ops (frameOf n x)) = true) (h : o.wp P ⟨frameOf n x, ds⟩ w K Q) : wpOp P ops Q i K ⟨frameOf n x, ds⟩ w := by
 unfold wpOp
 simp only [ho]
 rw [if_pos hw]
 exact .inl h
theorem arm_val (ho : ops[i]? = some o) (hw : Region.wanted o (yielded ops (frameOf n x)) = true) (v : Value) (h : (execOp (evX n x) o).run P w = .ok (.value v) w) (k : K ((⟨frameOf n x, ds⟩ : Act).put o.dst v) w) : wpOp P ops Q i K ⟨frameOf n x, ds⟩ w := by
 refine arm_wp ho hw ?_
 unfold Oper.wp
 rw [ev_frame, h]
 exact k
theorem arm_call (ho : ops[i]? = some o) (hw : Region.wanted o (yielded ops (frameOf n x)) = true) (f : FuncId) (args : Array Value) (v : Value) (h : (execOp (evX n x) o).run P w = .ok (.enter f args) w) (hc : Calls P f args w fun e w' => e = .returned v ∧ Ext w w') (k : ∀ w', Ext w w' → K ((⟨frameOf n x, ds⟩ : Act).put o.dst v) w') : wpOp P ops Q i K ⟨frameOf n x, ds⟩ w := by
 refine arm_wp ho hw ?_
 unfold Oper.wp
 rw [ev_frame, h]
 refine hc.mono ?_
 rintro e w9 ⟨rfl, E⟩
 exact k w9 E
end
theorem kdir {n : Nat} {ops : Array Oper} {i t : Nat} {o : Oper} (ho : ops[i]? = some o) (k : Nat) (hk : (binders ops i).contains k = true) (hd : dstB ops k = some t) : knowsP n ops [] i t = true := by
 have hs : 0 < ops.size := Nat.lt_of_le_of_lt (Nat.zero_le i) (Array.getElem?_eq_some_iff.1 ho).1
 unfold knowsP
 rw [Bool.or_eq_true]
 refine .inr (List.any_eq_true.2 ⟨k, ?_, ?_⟩)
 ·obtain ⟨f, hf⟩ : ∃ f, ops.size = f + 1 := ⟨ops.size - 1, by omega⟩
  rw [hf]
  unfold ancs
  exact List.mem_flatMap.2 ⟨k, List.contains_iff_mem.1 hk, List.mem_cons_self ..⟩
 ·rw [hd]
  simp
theorem kdst {ops : Array Oper} {t : Nat} (k : Nat) (hd : dstB ops k = some t) : noDst ops t = false := by
 cases h : noDst ops t with
 | false => rfl
 | true =>
  have hk : k < ops.size := by
   unfold dstB at hd
   by_cases hk : k < ops.size
   ·exact hk
   ·rw [Array.getElem?_eq_none (Nat.le_of_not_lt hk)] at hd
    cases hd
  have h1 := List.all_eq_true.1 h k (List.mem_range.2 hk)
  rw [hd] at h1
  simp at h1
end Go.Proofs.YtceaeiaoanhlnaaDoor
