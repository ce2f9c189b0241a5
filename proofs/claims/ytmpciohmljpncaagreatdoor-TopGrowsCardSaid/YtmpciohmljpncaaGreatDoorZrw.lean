/- Merged texts (RegW, RegY). -/
import Derived.Test.YtmpciohmljpncaaGreatDoorZa
namespace Go.Proofs.YtmpciohmljpncaaGreatDoor
open Go.ChangeShapes Go.WideShapes Go.ChangeAt Go.RowKit
def overF (x : Nat → Value) (ds : List Nat) (F : Array Value) : Array Value := ds.foldl (fun G d => G.setIfInBounds d (x d)) F
theorem overF_size (x : Nat → Value) : ∀ (ds : List Nat) (F : Array Value), (overF x ds F).size = F.size
 | [], _ => rfl
 | d :: ds, F => by
  show (overF x ds (F.setIfInBounds d (x d))).size = _
  rw [overF_size x ds, Array.size_setIfInBounds]
theorem overF_get (x : Nat → Value) : ∀ (ds : List Nat) (F : Array Value) (t : Nat), t < F.size → (overF x ds F)[t]? = if t ∈ ds then some (x t) else F[t]?
 | [], F, t, _ => by simp [overF]
 | d :: ds, F, t, ht => by
  show (overF x ds (F.setIfInBounds d (x d)))[t]? = _
  rw [overF_get x ds _ t (by rw [Array.size_setIfInBounds]; exact ht), Array.getElem?_setIfInBounds]
  by_cases h1 : t ∈ ds
  ·simp [h1]
  ·by_cases h2 : d = t
   ·subst h2
    simp [ht]
   ·have : t ≠ d := fun e => h2 e.symm
    simp [h1, h2, this]
theorem frame_over (n : Nat) (x : Nat → Value) (F : Array Value) (hF : F.size = n) (ds : List Nat) (h : ∀ t, t < n → t ∉ ds → x t = F.getD t undef) : frameOf n x = overF x ds F := by
 apply Array.ext_getElem?
 intro t
 by_cases ht : t < n
 ·rw [overF_get x ds F t (by omega)]
  have e : (frameOf n x)[t]? = some (x t) := by simp [frameOf, ht]
  rw [e]
  by_cases h1 : t ∈ ds
  ·rw [if_pos h1]
  ·rw [if_neg h1, h t ht h1]
   have hts : t < F.size := by omega
   simp [hts]
 ·have a1 : (frameOf n x).size ≤ t := by simp [frameOf]; omega
  have a2 : (overF x ds F).size ≤ t := by rw [overF_size]; omega
  rw [Array.getElem?_eq_none a1, Array.getElem?_eq_none a2]
theorem wp_region_rw {P : Program} {id : Nat} {ops : Array Oper} {Q : Exit → Act → World → Prop} {a : Act} {w : World} (n : Nat) (mem ds : List Nat) (Φ : List Value → World → Prop) (I : Nat → World → Value → Prop) (R : World → World → Prop)
  (hm : P.follows .mixedOrders = true) (hn : a.tmps.size = n) (hf : fwdB ops = true) (hs : sepB ops = true) (hc : chainB ops mem = true) (hds : ((List.range n).all fun t => noDst ops t || ds.contains t) = true)
  (hRE : ∀ w' w'', Ext w' w'' → R w' w'') (hIR : ∀ t w' w'' v, R w' w'' → I t w' v → I t w'' v) (hΦE : ∀ vs w' w'', Φ vs w' → Ext w' w'' → Φ vs w'')
  (h0 : Φ [] w.drew)
  (hplain : ∀ i o, ops[i]? = some o → mem.contains i = false → ∀ vs x w', PhOk ops mem i vs.length → Φ vs w' → (∀ q d, q < vs.length → dstB ops (mem.getD q 0) = some d → x d = vs.getD q undef) → (∀ t, knowsP n ops mem i t = true → noDst ops t = false → I t w' (x t)) → (∀ t, t < n → noDst ops t = true → x t = a.tmps.getD t undef) →
   ∀ K : Act → World → Prop, Hid (∀ v w'', Ext w' w'' → (∀ d, o.dst = some d → I d w'' v) → K ((⟨frameOf n x, a.defers⟩ : Act).put o.dst v) w'') → wpOp P ops Q i K ⟨frameOf n x, a.defers⟩ w')
  (hmem : ∀ i o, ops[i]? = some o → mem.contains i = true → ∀ vs x w', mem.getD vs.length 0 = i → vs.length < mem.length → Φ vs w' → (∀ q d, q < vs.length → dstB ops (mem.getD q 0) = some d → x d = vs.getD q undef) → (∀ t, knowsP n ops mem i t = true → noDst ops t = false → I t w' (x t)) → (∀ t, t < n → noDst ops t = true → x t = a.tmps.getD t undef) →
   ∀ K : Act → World → Prop, Hid (∀ v w'', Φ (vs ++ [v]) w'' → R w' w'' → K ((⟨frameOf n x, a.defers⟩ : Act).put o.dst v) w'') → wpOp P ops Q i K ⟨frameOf n x, a.defers⟩ w')
  (hend : ∀ vs x w', vs.length = mem.length → Φ vs w' → (∀ q d, q < vs.length → dstB ops (mem.getD q 0) = some d → x d = vs.getD q undef) → (∀ t, t < n → (mem.any fun k => dstB ops k == some t) = false → noDst ops t = false → I t w' (x t)) → Q .normal ⟨overF x ds a.tmps, a.defers⟩ w') : (Code.region id ops true).wp P Q a w := by
 have hno : ∀ (i : Nat) (o : Oper), ops[i]? = some o → ∀ d, o.dst = some d → noDst ops d = false := by
  intro i o ho d hd
  cases hno : noDst ops d with
  | false => rfl
  | true =>
   have h1 := List.all_eq_true.1 hno i (List.mem_range.2 (Array.getElem?_eq_some_iff.1 ho).1)
   have h2 : dstB ops i = some d := by unfold dstB; rw [ho]; exact hd
   rw [h2] at h1
   simp at h1
 have hkn : ∀ i t, t < n → noDst ops t = true → knowsP n ops mem i t = true := fun i t ht h => by
  unfold knowsP
  rw [h, decide_eq_true ht]
  rfl
 refine wp_region_rx n mem Φ (fun t w' v => (noDst ops t = true → v = a.tmps.getD t undef) ∧ (noDst ops t = false → I t w' v)) R hm hn hf hs hc hRE (fun t w' w'' v hR h => ⟨h.1, fun e => hIR t w' w'' v hR (h.2 e)⟩) hΦE h0 (fun t ht h => ⟨fun _ => rfl, fun e => by rw [h] at e; cases e⟩) ?_ ?_ ?_
 ·intro i o ho hmi vs x w' hp hph hX hI K hK
  exact hplain i o ho hmi vs x w' hp hph hX (fun t ht => (hI t ht).2) (fun t ht h => (hI t (hkn i t ht h)).1 h) K (fun v w'' hE hv => hK.out v w'' hE fun d hd => ⟨fun e => (by rw [hno i o ho d hd] at e; cases e), fun _ => hv d hd⟩)
 ·intro i o ho hmi vs x w' hq hl hph hX hI K hK
  exact hmem i o ho hmi vs x w' hq hl hph hX (fun t ht => (hI t ht).2) (fun t ht h => (hI t (hkn i t ht h)).1 h) K hK
 ·intro vs x w' hl hph hX hI
  have hfr : frameOf n x = overF x ds a.tmps := by
   refine frame_over n x a.tmps hn ds fun t ht hd => ?_
   have h1 := List.all_eq_true.1 hds t (List.mem_range.2 ht)
   have h2 : noDst ops t = true := by
    rw [Bool.or_eq_true] at h1
    rcases h1 with h1 | h1
    ·exact h1
    ·exact absurd (List.contains_iff_mem.1 h1) hd
   have h3 : (mem.any fun k => dstB ops k == some t) = false := by
    rw [List.any_eq_false]
    intro k hk e
    have e' : dstB ops k = some t := by simpa using e
    unfold dstB at e'
    cases ho : ops[k]? with
    | none => rw [ho] at e'; cases e'
    | some o =>
     rw [ho] at e'
     have := hno k o ho t e'
     rw [h2] at this
     cases this
   exact (hI t ht h3).1 h2
  rw [hfr]
  exact hend vs x w' hl hph hX (fun t ht h1 => (hI t ht h1).2)
end Go.Proofs.YtmpciohmljpncaaGreatDoor
namespace Go.Proofs.YtmpciohmljpncaaGreatDoor
open Go.ChangeShapes Go.WideShapes Go.ChangeAt Go.RowKit
/-- a slot that still holds what it held ahead of the region when operation i comes up -/
def oldB (n : Nat) (ops : Array Oper) (i t : Nat) : Bool := decide (t < n) && (List.range ops.size).all fun k => dstB ops k != some t || (k == i || ancB ops i k)
/-- a slot of which the law is known when operation i comes up -/
def newB (ops : Array Oper) (i t : Nat) : Bool := (ancs ops ops.size i).any fun k => dstB ops k == some t
theorem wp_region_ro {P : Program} {id : Nat} {ops : Array Oper} {Q : Exit → Act → World → Prop} {a : Act} {w : World} (n : Nat) (ds : List Nat) (Φ : World → Prop) (I : Nat → World → Value → Prop)
  (hm : P.follows .mixedOrders = true) (hn : a.tmps.size = n) (hf : fwdB ops = true) (hs : sepB ops = true) (hds : ((List.range n).all fun t => noDst ops t || ds.contains t) = true)
  (hIE : ∀ t w' w'' v, Ext w' w'' → I t w' v → I t w'' v) (hΦE : ∀ w' w'', Φ w' → Ext w' w'' → Φ w'') (h0 : Φ w.drew)
  (hplain : ∀ i o, ops[i]? = some o → ∀ x w', Φ w' → (∀ t, newB ops i t = true → I t w' (x t)) → (∀ t, oldB n ops i t = true → x t = a.tmps.getD t undef) →
   ∀ K : Act → World → Prop, Hid (∀ v w'', Ext w' w'' → (∀ d, o.dst = some d → I d w'' v) → K ((⟨frameOf n x, a.defers⟩ : Act).put o.dst v) w'') → wpOp P ops Q i K ⟨frameOf n x, a.defers⟩ w')
  (hend : ∀ x w', Φ w' → (∀ t, noDst ops t = false → I t w' (x t)) → Q .normal ⟨overF x ds a.tmps, a.defers⟩ w') : (Code.region id ops true).wp P Q a w := by
 have hirr : ∀ f i, i < ops.size → ∀ k ∈ ancs ops f i, k < i := by
  intro f
  induction f with
  | zero => intro i _ k h; cases h
  | succ f ih =>
   intro i hi k h
   unfold ancs at h
   obtain ⟨j, hj, hk⟩ := List.mem_flatMap.1 h
   have hlt : j < i := by
    have h1 := List.all_eq_true.1 hf i (List.mem_range.2 hi)
    have h2 := List.all_eq_true.1 h1 j hj
    simpa using h2
   rcases List.mem_cons.1 hk with rfl | hk
   ·exact hlt
   ·have := ih j (by omega) k hk
    omega
 have hsep : ∀ i k d, i < ops.size → k < ops.size → dstB ops i = some d → dstB ops k = some d → i = k := by
  intro i k d hi hk h1 h2
  have h3 := List.all_eq_true.1 (List.all_eq_true.1 hs i (List.mem_range.2 hi)) k (List.mem_range.2 hk)
  rw [h1, h2] at h3
  simpa using h3
 refine wp_region_inv n (fun L x w' => (∀ j, j < ops.size → L j = true → ∀ k ∈ binders ops j, L k = true) ∧ (∀ t, t < n → (∀ k, k < ops.size → dstB ops k = some t → L k = false) → x t = a.tmps.getD t undef) ∧
  (∀ k d, k < ops.size → dstB ops k = some d → L k = true → I d w' (x d)) ∧ Φ w') hm hn hf ?_ ?_ ?_
 ·refine ⟨fun j hj hL => ?_, fun t ht _ => rfl, fun k d hk _ hL => ?_, h0⟩
  ·simp at hL; omega
  ·simp at hL; omega
 ·intro i o ho L x w' ⟨hdown, hold, hdone, hΦ⟩ hLi hLb K hK
  have hi : i < ops.size := (Array.getElem?_eq_some_iff.1 ho).1
  have hdst : ∀ d, o.dst = some d ↔ dstB ops i = some d := fun d => by unfold dstB; rw [ho]; rfl
  refine hplain i o ho x w' hΦ (fun t ht => ?_) (fun t ht => ?_) K (fun v w'' hE hv => hK.out v w'' ⟨?_, ?_, ?_, hΦE w' w'' hΦ hE⟩)
  ·unfold newB at ht
   obtain ⟨k, hk, hkd⟩ := List.any_eq_true.1 ht
   have hk2 : k < ops.size := by have := hirr _ _ hi k hk; omega
   exact hdone k t hk2 (by simpa using hkd) (anc_listed hdown hf _ i k hi hLb hk)
  ·unfold oldB at ht
   rw [Bool.and_eq_true] at ht
   refine hold t (by simpa using ht.1) fun k hk hkd => ?_
   have h1 := List.all_eq_true.1 ht.2 k (List.mem_range.2 hk)
   rw [hkd] at h1
   have h2 : k = i ∨ ancB ops i k = true := by simpa using h1
   rcases h2 with rfl | h2
   ·exact hLi
   ·cases hLk : L k with
    | false => rfl
    | true =>
     have := anc_listed hdown hf ops.size k i hk (hdown k hk hLk) (by unfold ancB at h2; simpa using h2)
     rw [this] at hLi
     cases hLi
  ·intro j hj hjl k hk
   show (k == i || L k) = true
   by_cases hji : j = i
   ·subst hji
    rw [hLb k hk]; simp
   ·have : L j = true := by
     have hb : (j == i) = false := by simpa using hji
     simpa [hb] using hjl
    rw [hdown j hj this k hk]; simp
  ·intro t ht hno
   have hne : o.dst ≠ some t := fun e => by
    have := hno i hi ((hdst t).1 e)
    simp at this
   simp only [putX, hne, if_false]
   refine hold t ht fun k hk hkd => ?_
   have := hno k hk hkd
   simp only [Bool.or_eq_false_iff] at this
   exact this.2
  ·intro k d hk hkd hL
   by_cases hki : k = i
   ·subst hki
    have : o.dst = some d := (hdst d).2 hkd
    simp only [putX, this, if_true]
    exact hv d this
   ·have hLk : L k = true := by
     have : (k == i) = false := by simpa using hki
     simpa [this] using hL
    have hne : o.dst ≠ some d := fun e => hki (hsep i k d hi hk ((hdst d).1 e) hkd).symm
    simp only [putX, hne, if_false]
    exact hIE d w' w'' _ hE (hdone k d hk hkd hLk)
 ·intro L x w' ⟨hdown, hold, hdone, hΦ⟩ hL
  have hfr : frameOf n x = overF x ds a.tmps := by
   refine frame_over n x a.tmps hn ds fun t ht hd => ?_
   have h1 := List.all_eq_true.1 hds t (List.mem_range.2 ht)
   have h2 : noDst ops t = true := by
    rw [Bool.or_eq_true] at h1
    rcases h1 with h1 | h1
    ·exact h1
    ·exact absurd (List.contains_iff_mem.1 h1) hd
   refine hold t ht fun k hk hkd => ?_
   have h3 := List.all_eq_true.1 h2 k (List.mem_range.2 hk)
   rw [hkd] at h3
   simp at h3
  rw [hfr]
  refine hend x w' hΦ fun t ht => ?_
  unfold noDst at ht
  obtain ⟨k, hk, hkd⟩ := List.all_eq_false.1 ht
  exact hdone k t (List.mem_range.1 hk) (by simpa using hkd) (hL k (List.mem_range.1 hk))
end Go.Proofs.YtmpciohmljpncaaGreatDoor
