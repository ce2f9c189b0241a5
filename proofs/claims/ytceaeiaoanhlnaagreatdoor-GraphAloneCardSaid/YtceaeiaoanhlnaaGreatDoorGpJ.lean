import Derived.Test.YtceaeiaoanhlnaaGreatDoorZgb
set_option maxRecDepth 100000
set_option maxHeartbeats 32000000
namespace Go.Proofs.YtceaeiaoanhlnaaGreatDoor
open Go.ChangeShapes Go.WideShapes Go.ChangeAt Go.RowKit Go.Lib Go.Shelf
def fineB (c : ConfD) (p : ByteArray) : Bool := (onR c.R p).all (fun r => decide (r.ab <= 0) && decide (r.rate <= 0)) && ((targS c.R p).all (fun id => hasEnd c.E id && !withinB c id) && ((targC c.R p).all (fun id => !withinB c id) && openB (onR c.R p)))
def aloneR (c : ConfD) (p : ByteArray) : Int × Bool :=
 if (wayC c [p]).all (fineB c) = false then (0,false)
 else if ((wayC c [p]).all fun q => (onR c.R q).all fun r => decide (timeC c p <= r.q0)) = false then (0,false)
 else if roomB c p = false then (0,false)
 else if c.life < timeC c p then (0,false) else (timeC c p,true)
theorem alone_eq (c : ConfD) (p : ByteArray) : aloneR c p = aloneC c p := by
 have key : ((wayC c [p]).all (fineB c) = true /\ ((wayC c [p]).all fun q => (onR c.R q).all fun r => decide (timeC c p <= r.q0)) = true) ↔ (circleB c (wayC c [p]) = false /\ (wayC c [p]).all (plainB c (timeC c p)) = true) := by
  generalize wayC c [p] = W;generalize timeC c p = t;simp only [List.all_eq_true,circleB,List.any_eq_false];constructor
  ·rintro ⟨h1,h2⟩;refine ⟨fun q hq hw => ?_,fun q hq => ?_⟩
   ·obtain ⟨id,hid,hb⟩ := List.any_eq_true.1 hw;have := h1 q hq;simp only [fineB,Bool.and_eq_true,List.all_eq_true] at this;rcases List.mem_append.1 hid with h | h
    ·have := (this.2.1 id h).2;rw [hb] at this;cases this
    ·have := this.2.2.1 id h;rw [hb] at this;cases this
   ·have h3 := h1 q hq;have h4 := h2 q hq;simp only [fineB,plainB,easyB,Bool.and_eq_true,List.all_eq_true] at h3 h4 ⊢;exact ⟨fun r hr => ⟨h3.1 r hr,h4 r hr⟩,fun id hid => (h3.2.1 id hid).1,h3.2.2.2⟩
  ·rintro ⟨h1,h2⟩;refine ⟨fun q hq => ?_,fun q hq => ?_⟩
   ·have h3 := h2 q hq
    have h4 : ∀ id ∈ bothP c.R q,(!withinB c id) = true := fun id hid => by
     cases hb : withinB c id with
     | false => rfl
     | true => exact absurd (List.any_eq_true.2 ⟨id,hid,hb⟩) (h1 q hq)
    simp only [fineB,plainB,easyB,Bool.and_eq_true,List.all_eq_true] at h3 ⊢;exact ⟨fun r hr => (h3.1 r hr).1,fun id hid => ⟨h3.2.1 id hid,h4 id (List.mem_append_left _ hid)⟩,fun id hid => h4 id (List.mem_append_right _ hid),h3.2.2⟩
   ·have h3 := h2 q hq;simp only [plainB,easyB,Bool.and_eq_true,List.all_eq_true] at h3 ⊢;exact fun r hr => (h3.1 r hr).2
 unfold aloneR aloneC;generalize (wayC c [p]).all (fineB c) = x1 at *;generalize ((wayC c [p]).all fun q => (onR c.R q).all fun r => decide (timeC c p <= r.q0)) = x2 at *;generalize circleB c (wayC c [p]) = y1 at *;generalize (wayC c [p]).all (plainB c (timeC c p)) = y2 at *;generalize roomB c p = z at *;by_cases hl : c.life < timeC c p
 ·simp only [hl,if_true];cases x1 <;> cases x2 <;> cases y1 <;> cases y2 <;> cases z <;> simp
 ·simp only [hl,if_false];cases x1 <;> cases x2 <;> cases y1 <;> cases y2 <;> cases z <;> simp at key ⊢
def OrL (i : Nat) : List Nat -> Prop
  | [] => False
  | [a] => i = a
  | a :: b :: l => i = a \/ OrL i (b :: l)
theorem orL_mem {i : Nat} : ∀ l : List Nat,i ∈ l -> OrL i l
  | [],h => by cases h
  | [_],h => List.mem_singleton.1 h
  | _ :: b :: l,h => (List.mem_cons.1 h).imp id (orL_mem (b :: l))
theorem zo {i n : Nat} (h : i < n) : OrL i (List.range n) := orL_mem _ (List.mem_range.2 h)
theorem zn {b : Bool} {C : Prop} (h : b = true) (k : b = false := by kernel_rfl) : C := absurd (h.symm.trans k) (by decide)
theorem zk1 {A C : Prop} (h : A -> C) (a : A := by kernel_rfl) : C := h a
theorem zk2 {A B C : Prop} (h : A -> B -> C) (a : A := by kernel_rfl) (b : B := by kernel_rfl) : C := h a b
theorem zk3 {A B C : Prop} (h : A -> B -> C) (a : A := by omega) (b : B := by kernel_rfl) : C := h a b
theorem zk4 {A B C E : Prop} (h : A -> B -> C -> E) (a : A := by omega) (b : B := by kernel_rfl) (c : C := by kernel_rfl) : E := h a b c
theorem zm1 {K : Act -> World -> Prop} {w : World} {A : Act} {D : Option Nat} {f : Value -> Act} {I : Nat -> World -> Value -> Prop} (hK : Hid (∀ v w'',Ext w w'' -> (∀ d,D = some d -> I d w'' v) -> K (f v) w'')) (v : Value) (e : f v = A) (h : ∀ d,D = some d -> I d w v := by intro d hd; cases hd; exact rfl) : K A w := e ▸ hK.out v w (Below.refl _ _) h
theorem zm0 {K : Act -> World -> Prop} {w : World} {A : Act} {D : Option Nat} {f : Value -> Act} {I : Nat -> Value -> Prop} (hK : Hid (∀ v,(∀ d,D = some d -> I d v) -> K (f v) w)) (v : Value) (e : f v = A) (h : ∀ d,D = some d -> I d v := by intro d hd; cases hd; exact rfl) : K A w := e ▸ hK.out v h
theorem zb {B : Nat} {w : World} : Below B w w := Below.refl B w
theorem za {w : World} {o : Obj} : Ext w (w.alloc o) := (Below.refl _ w).alloc (Nat.le_refl _) o
theorem zg {α : Type} {a : Array α} {i : Nat} {x : α} (h : a[i]? = some x) : i < a.size := (Array.getElem?_eq_some_iff.1 h).1
end Go.Proofs.YtceaeiaoanhlnaaGreatDoor
