import Derived.Test.YtceaeiaoanhlnaaDoorZrw
namespace Go.Proofs.YtceaeiaoanhlnaaDoor
open Go.ChangeShapes Go.WideShapes Go.ChangeAt Go.RowKit
/-- a slot that still holds what it held ahead of the region when operation i comes up -/
def oldB (n : Nat) (ops : Array Oper) (i t : Nat) : Bool := decide (t < n) && (List.range ops.size).all fun k => dstB ops k != some t || (k == i || ancB ops i k)
/-- a slot of which the law is known when operation i comes up -/
def newB (ops : Array Oper) (i t : Nat) : Bool := (ancs ops ops.size i).any fun k => dstB ops k == some t
theorem wp_region_ro {P : Program} {id : Nat} {ops : Array Oper} {Q : Exit → Act → World → Prop} {a : Act} {w : World} (n : Nat) (ds : List Nat) (Φ : World → Prop) (I : Nat → World → Value → Prop)
  (hm : P.follows .mixedOrders = true) (hn : a.tmps.size = n) (hf : fwdB ops = true) (hs : sepB ops = true) (hds : ((List.range n).all fun t => noDst ops t || ds.contains t) = true)
  (hIE : ∀ t w' w'' v, Ext w' w'' → I t w' v → I t w'' v) (hΦE : ∀ w' w'', Φ w' → Ext w' w'' → Φ w'') (h0 : Φ w.drew)
  (hplain : ∀ i o, ops[i]? = some o → ∀ x w', Φ w' → (∀ t, newB ops i t = true → I t w' (x t)) → (∀ t, oldB n ops i t = true → x t = a.tmps.getD t undef) →
   ∀ K : Act → World → Prop, Hid (∀ v w'', Ext w' w'' → (∀ d, o.dst = some d → I d w'' v) → K ((⟨frameOf n x, a.defers⟩ : Act).put o.dst v) w'') → wpOp P ops Q i K ⟨frameOf n x, a.defers⟩ w')
  (hend : ∀ x w', Φ w' → (∀ t, noDst ops t = false → I t w' (x t)) → Q .normal ⟨overF x ds a.tmps, a.defers⟩ w') : (Code.region id ops true).wp P Q a w := by
 have hirr : ∀ f i, i < ops.size → ∀ k ∈ ancs ops f i, k < i := by
  intro f
  induction f with
  | zero => intro i _ k h; cases h
  | succ f ih =>
   intro i hi k h
   unfold ancs at h
   obtain ⟨j, hj, hk⟩ := List.mem_flatMap.1 h
   have hlt : j < i := by
    have h1 := List.all_eq_true.1 hf i (List.mem_range.2 hi)
    have h2 := List.all_eq_true.1 h1 j hj
    simpa using h2
   rcases List.mem_cons.1 hk with rfl | hk
   ·exact hlt
   ·have := ih j (by omega) k hk
    omega
 have hsep : ∀ i k d, i < ops.size → k < ops.size → dstB ops i = some d → dstB ops k = some d → i = k := by
  intro i k d hi hk h1 h2
  have h3 := List.all_eq_true.1 (List.all_eq_true.1 hs i (List.mem_range.2 hi)) k (List.mem_range.2 hk)
  rw [h1, h2] at h3
  simpa using h3
 refine wp_region_inv n (fun L x w' => (∀ j, j < ops.size → L j = true → ∀ k ∈ binders ops j, L k = true) ∧ (∀ t, t < n → (∀ k, k < ops.size → dstB ops k = some t → L k = false) → x t = a.tmps.getD t undef) ∧
  (∀ k d, k < ops.size → dstB ops k = some d → L k = true → I d w' (x d)) ∧ Φ w') hm hn hf ?_ ?_ ?_
 ·refine ⟨fun j hj hL => ?_, fun t ht _ => rfl, fun k d hk _ hL => ?_, h0⟩
  ·simp at hL; omega
  ·simp at hL; omega
 ·intro i o ho L x w' ⟨hdown, hold, hdone, hΦ⟩ hLi hLb K hK
  have hi : i < ops.size := (Array.getElem?_eq_some_iff.1 ho).1
  have hdst : ∀ d, o.dst = some d ↔ dstB ops i = some d := fun d => by unfold dstB; rw [ho]; rfl
  refine hplain i o ho x w' hΦ (fun t ht => ?_) (fun t ht => ?_) K (fun v w'' hE hv => hK.out v w'' ⟨?_, ?_, ?_, hΦE w' w'' hΦ hE⟩)
  ·unfold newB at ht
   obtain ⟨k, hk, hkd⟩ := List.any_eq_true.1 ht
   have hk2 : k < ops.size := by have := hirr _ _ hi k hk; omega
   exact hdone k t hk2 (by simpa using hkd) (anc_listed hdown hf _ i k hi hLb hk)
  ·unfold oldB at ht
   rw [Bool.and_eq_true] at ht
   refine hold t (by simpa using ht.1) fun k hk hkd => ?_
   have h1 := List.all_eq_true.1 ht.2 k (List.mem_range.2 hk)
   rw [hkd] at h1
   have h2 : k = i ∨ ancB ops i k = true := by simpa using h1
   rcases h2 with rfl | h2
   ·exact hLi
   ·cases hLk : L k with
    | false => rfl
    | true =>
     have := anc_listed hdown hf ops.size k i hk (hdown k hk hLk) (by unfold ancB at h2; simpa using h2)
     rw [this] at hLi
     cases hLi
  ·intro j hj hjl k hk
   show (k == i || L k) = true
   by_cases hji : j = i
   ·subst hji
    rw [hLb k hk]; simp
   ·have : L j = true := by
     have hb : (j == i) = false := by simpa using hji
     simpa [hb] using hjl
    rw [hdown j hj this k hk]; simp
  ·intro t ht hno
   have hne : o.dst ≠ some t := fun e => by
    have := hno i hi ((hdst t).1 e)
    simp at this
   simp only [putX, hne, if_false]
   refine hold t ht fun k hk hkd => ?_
   have := hno k hk hkd
   simp only [Bool.or_eq_false_iff] at this
   exact this.2
  ·intro k d hk hkd hL
   by_cases hki : k = i
   ·subst hki
    have : o.dst = some d := (hdst d).2 hkd
    simp only [putX, this, if_true]
    exact hv d this
   ·have hLk : L k = true := by
     have : (k == i) = false := by simpa using hki
     simpa [this] using hL
    have hne : o.dst ≠ some d := fun e => hki (hsep i k d hi hk ((hdst d).1 e) hkd).symm
    simp only [putX, hne, if_false]
    exact hIE d w' w'' _ hE (hdone k d hk hkd hLk)
 ·intro L x w' ⟨hdown, hold, hdone, hΦ⟩ hL
  have hfr : frameOf n x = overF x ds a.tmps := by
   refine frame_over n x a.tmps hn ds fun t ht hd => ?_
   have h1 := List.all_eq_true.1 hds t (List.mem_range.2 ht)
   have h2 : noDst ops t = true := by
    rw [Bool.or_eq_true] at h1
    rcases h1 with h1 | h1
    ·exact h1
    ·exact absurd (List.contains_iff_mem.1 h1) hd
   refine hold t ht fun k hk hkd => ?_
   have h3 := List.all_eq_true.1 h2 k (List.mem_range.2 hk)
   rw [hkd] at h3
   simp at h3
  rw [hfr]
  refine hend x w' hΦ fun t ht => ?_
  unfold noDst at ht
  obtain ⟨k, hk, hkd⟩ := List.all_eq_false.1 ht
  exact hdone k t (List.mem_range.1 hk) (by simpa using hkd) (hL k (List.mem_range.1 hk))
end Go.Proofs.YtceaeiaoanhlnaaDoor
