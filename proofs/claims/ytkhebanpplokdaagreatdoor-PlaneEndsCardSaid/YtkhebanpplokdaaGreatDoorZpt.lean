/- Merged texts (RegT, RegU). -/
import Derived.Test.YtkhebanpplokdaaGreatDoorZa
namespace Go.Proofs.YtkhebanpplokdaaGreatDoor
open Go.ChangeShapes Go.WideShapes Go.ChangeAt Go.RowKit
theorem wp_region_two {P : Program} {id : Nat} {ops : Array Oper} {Q : Exit → Act → World → Prop} {a : Act} {w : World} (n c s : Nat) (I : Nat → Value → Prop) (A A' S S' T : World → Prop)
  (hm : P.follows .mixedOrders = true) (hn : a.tmps.size = n) (hf : fwdB ops = true) (hsp : sepB ops = true) (hc : c < ops.size) (hs : s < ops.size) (hcs : c ≠ s)
  (hA : A w.drew) (hS : S w.drew) (hT : T w.drew) (hI : ∀ t, t < n → noDst ops t = true → I t (a.tmps.getD t undef))
  (hplain : ∀ i o, ops[i]? = some o → i ≠ c → i ≠ s → ∀ x w', T w' → (∀ t, knowsP n ops [] i t = true → I t (x t)) →
   ∀ K : Act → World → Prop, Hid (∀ v, (∀ d, o.dst = some d → I d v) → K ((⟨frameOf n x, a.defers⟩ : Act).put o.dst v) w') → wpOp P ops Q i K ⟨frameOf n x, a.defers⟩ w')
  (hcall : ∀ o, ops[c]? = some o → ∀ x w' (Z : World → Prop), (Z = S ∨ Z = S') → A w' → Z w' → T w' → (∀ t, knowsP n ops [] c t = true → I t (x t)) →
   ∀ K : Act → World → Prop, Hid (∀ v w'', A' w'' → Z w'' → T w'' → (∀ d, o.dst = some d → I d v) → K ((⟨frameOf n x, a.defers⟩ : Act).put o.dst v) w'') → wpOp P ops Q c K ⟨frameOf n x, a.defers⟩ w')
  (hstore : ∀ o, ops[s]? = some o → ∀ x w' (Z : World → Prop), (Z = A ∨ Z = A') → S w' → Z w' → T w' → (∀ t, knowsP n ops [] s t = true → I t (x t)) →
   ∀ K : Act → World → Prop, Hid (∀ v w'', S' w'' → Z w'' → T w'' → (∀ d, o.dst = some d → I d v) → K ((⟨frameOf n x, a.defers⟩ : Act).put o.dst v) w'') → wpOp P ops Q s K ⟨frameOf n x, a.defers⟩ w')
  (hend : ∀ x w', A' w' → S' w' → T w' → (∀ t, t < n → I t (x t)) → Q .normal ⟨frameOf n x, a.defers⟩ w') : (Code.region id ops true).wp P Q a w := by
 have hirr : ∀ f i, i < ops.size → ∀ k ∈ ancs ops f i, k < i := by
  intro f
  induction f with
  | zero => intro i _ k h; cases h
  | succ f ih =>
   intro i hi k h
   unfold ancs at h
   obtain ⟨j, hj, hk⟩ := List.mem_flatMap.1 h
   have hlt : j < i := by
    have h1 := List.all_eq_true.1 hf i (List.mem_range.2 hi)
    have h2 := List.all_eq_true.1 h1 j hj
    simpa using h2
   rcases List.mem_cons.1 hk with rfl | hk
   ·exact hlt
   ·have := ih j (by omega) k hk
    omega
 have hsep : ∀ i k d, i < ops.size → k < ops.size → dstB ops i = some d → dstB ops k = some d → i = k := by
  intro i k d hi hk h1 h2
  have h3 := List.all_eq_true.1 (List.all_eq_true.1 hsp i (List.mem_range.2 hi)) k (List.mem_range.2 hk)
  rw [h1, h2] at h3
  simpa using h3
 refine wp_region_inv n (fun L x w' => (∀ j, j < ops.size → L j = true → ∀ k ∈ binders ops j, L k = true) ∧ (∀ t, t < n → noDst ops t = true → I t (x t)) ∧ (∀ k d, k < ops.size → dstB ops k = some d → L k = true → I d (x d)) ∧
  ((L c = true → A' w') ∧ (L c = false → A w')) ∧ ((L s = true → S' w') ∧ (L s = false → S w')) ∧ T w') hm hn hf ?_ ?_ ?_
 ·refine ⟨fun j hj hL => ?_, hI, fun k d hk _ hL => ?_, ⟨fun h => ?_, fun _ => hA⟩, ⟨fun h => ?_, fun _ => hS⟩, hT⟩
  ·simp at hL; omega
  ·simp at hL; omega
  ·simp at h; omega
  ·simp at h; omega
 ·intro i o ho L x w' ⟨hdown, hfree, hdone, hAA, hSS, hTT⟩ hLi hLb K hK
  have hi : i < ops.size := (Array.getElem?_eq_some_iff.1 ho).1
  have hanc : ∀ k, k ∈ ancs ops ops.size i → L k = true := fun k hk => anc_listed hdown hf _ i k hi hLb hk
  have hknow : ∀ t, knowsP n ops [] i t = true → I t (x t) := by
   intro t ht
   unfold knowsP at ht
   rw [Bool.or_eq_true] at ht
   rcases ht with ht | ht
   ·rw [Bool.and_eq_true] at ht
    exact hfree t (by simpa using ht.1) ht.2
   ·obtain ⟨k, hk, hkd⟩ := List.any_eq_true.1 ht
    rw [Bool.and_eq_true] at hkd
    have hkd' : dstB ops k = some t := by simpa using hkd.1
    have hk2 : k < ops.size := by have := hirr _ _ hi k hk; omega
    exact hdone k t hk2 hkd' (hanc k hk)
  have hdown' : ∀ j, j < ops.size → (j == i || L j) = true → ∀ k ∈ binders ops j, (k == i || L k) = true := by
   intro j hj hjl k hk
   by_cases hji : j = i
   ·subst hji
    rw [hLb k hk]; simp
   ·have : L j = true := by
     have hb : (j == i) = false := by simpa using hji
     simpa [hb] using hjl
    rw [hdown j hj this k hk]; simp
  have hfree' : ∀ v, ∀ t, t < n → noDst ops t = true → I t (putX x o.dst v t) := by
   intro v t ht hno
   have hne : o.dst ≠ some t := by
    intro e
    have h1 := List.all_eq_true.1 hno i (List.mem_range.2 hi)
    have h2 : dstB ops i = some t := by unfold dstB; rw [ho]; exact e
    rw [h2] at h1
    simp at h1
   simp only [putX, hne, if_false]
   exact hfree t ht hno
  have hdone' : ∀ v, (∀ d, o.dst = some d → I d v) → ∀ k d, k < ops.size → dstB ops k = some d → (k == i || L k) = true → I d (putX x o.dst v d) := by
   intro v hv k d hk hd hl
   by_cases hki : k = i
   ·subst hki
    have h2 : o.dst = some d := by unfold dstB at hd; rw [ho] at hd; exact hd
    simp only [putX, h2, if_true]
    exact hv d h2
   ·have hL : L k = true := by
     have hb : (k == i) = false := by simpa using hki
     simpa [hb] using hl
    have hne : o.dst ≠ some d := by
     intro e
     have h2 : dstB ops i = some d := by unfold dstB; rw [ho]; exact e
     exact hki (hsep k i d hk hi hd h2)
    simp only [putX, hne, if_false]
    exact hdone k d hk hd hL
  by_cases hic : i = c
  ·subst hic
   have hsl : (s == i) = false := by simpa using fun e => hcs e.symm
   have hZ : ∃ Z : World → Prop, (Z = S ∨ Z = S') ∧ Z w' ∧ (∀ w'', Z w'' → (L s = true → S' w'') ∧ (L s = false → S w'')) := by
    cases hls : L s with
    | true => exact ⟨S', .inr rfl, hSS.1 hls, fun w'' h => ⟨fun _ => h, fun e => by cases e⟩⟩
    | false => exact ⟨S, .inl rfl, hSS.2 hls, fun w'' h => ⟨(fun e => by cases e), fun _ => h⟩⟩
   obtain ⟨Z, hz, hzw, hzz⟩ := hZ
   exact hcall o ho x w' Z hz (hAA.2 hLi) hzw hTT hknow K (fun v w'' h1 h2 h3 h4 => hK.out v w'' ⟨hdown', hfree' v, hdone' v h4, ⟨fun _ => h1, fun e => by simp at e⟩, by simpa [hsl] using hzz w'' h2, h3⟩)
  ·by_cases his : i = s
   ·subst his
    have hcl : (c == i) = false := by simpa using hcs
    have hZ : ∃ Z : World → Prop, (Z = A ∨ Z = A') ∧ Z w' ∧ (∀ w'', Z w'' → (L c = true → A' w'') ∧ (L c = false → A w'')) := by
     cases hls : L c with
     | true => exact ⟨A', .inr rfl, hAA.1 hls, fun w'' h => ⟨fun _ => h, fun e => by cases e⟩⟩
     | false => exact ⟨A, .inl rfl, hAA.2 hls, fun w'' h => ⟨(fun e => by cases e), fun _ => h⟩⟩
    obtain ⟨Z, hz, hzw, hzz⟩ := hZ
    exact hstore o ho x w' Z hz (hSS.2 hLi) hzw hTT hknow K (fun v w'' h1 h2 h3 h4 => hK.out v w'' ⟨hdown', hfree' v, hdone' v h4, by simpa [hcl] using hzz w'' h2, ⟨fun _ => h1, fun e => by simp at e⟩, h3⟩)
   ·have hcl : (c == i) = false := by simpa using fun e => hic e.symm
    have hsl : (s == i) = false := by simpa using fun e => his e.symm
    exact hplain i o ho hic his x w' hTT hknow K (fun v h4 => hK.out v w' ⟨hdown', hfree' v, hdone' v h4, by simpa [hcl] using hAA, by simpa [hsl] using hSS, hTT⟩)
 ·intro L x w' ⟨_, hfree, hdone, hAA, hSS, hTT⟩ hall
  refine hend x w' (hAA.1 (hall c hc)) (hSS.1 (hall s hs)) hTT fun t ht => ?_
  cases hno : noDst ops t with
  | true => exact hfree t ht hno
  | false =>
   unfold noDst at hno
   rw [List.all_eq_false] at hno
   obtain ⟨k, hk, hkd⟩ := hno
   have hd : dstB ops k = some t := by simpa using hkd
   exact hdone k t (List.mem_range.1 hk) hd (hall k (List.mem_range.1 hk))
end Go.Proofs.YtkhebanpplokdaaGreatDoor
namespace Go.Proofs.YtkhebanpplokdaaGreatDoor
open Go.ChangeShapes Go.WideShapes Go.ChangeAt Go.RowKit
theorem wp_region_duo {P : Program} {id : Nat} {ops : Array Oper} {Q : Exit → Act → World → Prop} {a : Act} {w : World} (n c s : Nat) (I : Nat → World → Value → Prop) (R : World → World → Prop) (A A' S S' T : World → Prop)
  (hm : P.follows .mixedOrders = true) (hn : a.tmps.size = n) (hf : fwdB ops = true) (hsp : sepB ops = true) (hc : c < ops.size) (hs : s < ops.size) (hcs : c ≠ s)
  (hA : A w.drew) (hS : S w.drew) (hT : T w.drew) (hIR : ∀ t w' w'' v, R w' w'' → I t w' v → I t w'' v) (hI : ∀ t, t < n → noDst ops t = true → I t w.drew (a.tmps.getD t undef))
  (hplain : ∀ i o, ops[i]? = some o → i ≠ c → i ≠ s → ∀ x w', T w' → (∀ t, knowsP n ops [] i t = true → I t w' (x t)) →
   ∀ K : Act → World → Prop, Hid (∀ v w'', R w' w'' → (A w' → A w'') → (A' w' → A' w'') → (S w' → S w'') → (S' w' → S' w'') → T w'' → (∀ d, o.dst = some d → I d w'' v) → K ((⟨frameOf n x, a.defers⟩ : Act).put o.dst v) w'') → wpOp P ops Q i K ⟨frameOf n x, a.defers⟩ w')
  (hcall : ∀ o, ops[c]? = some o → ∀ x w' (Z : World → Prop), (Z = S ∨ Z = S') → A w' → Z w' → T w' → (∀ t, knowsP n ops [] c t = true → I t w' (x t)) →
   ∀ K : Act → World → Prop, Hid (∀ v w'', R w' w'' → A' w'' → Z w'' → T w'' → (∀ d, o.dst = some d → I d w'' v) → K ((⟨frameOf n x, a.defers⟩ : Act).put o.dst v) w'') → wpOp P ops Q c K ⟨frameOf n x, a.defers⟩ w')
  (hstore : ∀ o, ops[s]? = some o → ∀ x w' (Z : World → Prop), (Z = A ∨ Z = A') → S w' → Z w' → T w' → (∀ t, knowsP n ops [] s t = true → I t w' (x t)) →
   ∀ K : Act → World → Prop, Hid (∀ v w'', R w' w'' → S' w'' → Z w'' → T w'' → (∀ d, o.dst = some d → I d w'' v) → K ((⟨frameOf n x, a.defers⟩ : Act).put o.dst v) w'') → wpOp P ops Q s K ⟨frameOf n x, a.defers⟩ w')
  (hend : ∀ x w', A' w' → S' w' → T w' → (∀ t, t < n → I t w' (x t)) → Q .normal ⟨frameOf n x, a.defers⟩ w') : (Code.region id ops true).wp P Q a w := by
 have hirr : ∀ f i, i < ops.size → ∀ k ∈ ancs ops f i, k < i := by
  intro f
  induction f with
  | zero => intro i _ k h; cases h
  | succ f ih =>
   intro i hi k h
   unfold ancs at h
   obtain ⟨j, hj, hk⟩ := List.mem_flatMap.1 h
   have hlt : j < i := by
    have h1 := List.all_eq_true.1 hf i (List.mem_range.2 hi)
    have h2 := List.all_eq_true.1 h1 j hj
    simpa using h2
   rcases List.mem_cons.1 hk with rfl | hk
   ·exact hlt
   ·have := ih j (by omega) k hk
    omega
 have hsep : ∀ i k d, i < ops.size → k < ops.size → dstB ops i = some d → dstB ops k = some d → i = k := by
  intro i k d hi hk h1 h2
  have h3 := List.all_eq_true.1 (List.all_eq_true.1 hsp i (List.mem_range.2 hi)) k (List.mem_range.2 hk)
  rw [h1, h2] at h3
  simpa using h3
 refine wp_region_inv n (fun L x w' => (∀ j, j < ops.size → L j = true → ∀ k ∈ binders ops j, L k = true) ∧ (∀ t, t < n → noDst ops t = true → I t w' (x t)) ∧ (∀ k d, k < ops.size → dstB ops k = some d → L k = true → I d w' (x d)) ∧
  ((L c = true → A' w') ∧ (L c = false → A w')) ∧ ((L s = true → S' w') ∧ (L s = false → S w')) ∧ T w') hm hn hf ?_ ?_ ?_
 ·refine ⟨fun j hj hL => ?_, hI, fun k d hk _ hL => ?_, ⟨fun h => ?_, fun _ => hA⟩, ⟨fun h => ?_, fun _ => hS⟩, hT⟩
  ·simp at hL; omega
  ·simp at hL; omega
  ·simp at h; omega
  ·simp at h; omega
 ·intro i o ho L x w' ⟨hdown, hfree, hdone, hAA, hSS, hTT⟩ hLi hLb K hK
  have hi : i < ops.size := (Array.getElem?_eq_some_iff.1 ho).1
  have hanc : ∀ k, k ∈ ancs ops ops.size i → L k = true := fun k hk => anc_listed hdown hf _ i k hi hLb hk
  have hknow : ∀ t, knowsP n ops [] i t = true → I t w' (x t) := by
   intro t ht
   unfold knowsP at ht
   rw [Bool.or_eq_true] at ht
   rcases ht with ht | ht
   ·rw [Bool.and_eq_true] at ht
    exact hfree t (by simpa using ht.1) ht.2
   ·obtain ⟨k, hk, hkd⟩ := List.any_eq_true.1 ht
    rw [Bool.and_eq_true] at hkd
    have hkd' : dstB ops k = some t := by simpa using hkd.1
    have hk2 : k < ops.size := by have := hirr _ _ hi k hk; omega
    exact hdone k t hk2 hkd' (hanc k hk)
  have hdown' : ∀ j, j < ops.size → (j == i || L j) = true → ∀ k ∈ binders ops j, (k == i || L k) = true := by
   intro j hj hjl k hk
   by_cases hji : j = i
   ·subst hji
    rw [hLb k hk]; simp
   ·have : L j = true := by
     have hb : (j == i) = false := by simpa using hji
     simpa [hb] using hjl
    rw [hdown j hj this k hk]; simp
  have hfree' : ∀ v w'', R w' w'' → ∀ t, t < n → noDst ops t = true → I t w'' (putX x o.dst v t) := by
   intro v w'' hR t ht hno
   have hne : o.dst ≠ some t := by
    intro e
    have h1 := List.all_eq_true.1 hno i (List.mem_range.2 hi)
    have h2 : dstB ops i = some t := by unfold dstB; rw [ho]; exact e
    rw [h2] at h1
    simp at h1
   simp only [putX, hne, if_false]
   exact hIR t _ _ _ hR (hfree t ht hno)
  have hdone' : ∀ v w'', R w' w'' → (∀ d, o.dst = some d → I d w'' v) → ∀ k d, k < ops.size → dstB ops k = some d → (k == i || L k) = true → I d w'' (putX x o.dst v d) := by
   intro v w'' hR hv k d hk hd hl
   by_cases hki : k = i
   ·subst hki
    have h2 : o.dst = some d := by unfold dstB at hd; rw [ho] at hd; exact hd
    simp only [putX, h2, if_true]
    exact hv d h2
   ·have hL : L k = true := by
     have hb : (k == i) = false := by simpa using hki
     simpa [hb] using hl
    have hne : o.dst ≠ some d := by
     intro e
     have h2 : dstB ops i = some d := by unfold dstB; rw [ho]; exact e
     exact hki (hsep k i d hk hi hd h2)
    simp only [putX, hne, if_false]
    exact hIR d _ _ _ hR (hdone k d hk hd hL)
  by_cases hic : i = c
  ·subst hic
   have hsl : (s == i) = false := by simpa using fun e => hcs e.symm
   have hZ : ∃ Z : World → Prop, (Z = S ∨ Z = S') ∧ Z w' ∧ (∀ w'', Z w'' → (L s = true → S' w'') ∧ (L s = false → S w'')) := by
    cases hls : L s with
    | true => exact ⟨S', .inr rfl, hSS.1 hls, fun w'' h => ⟨fun _ => h, fun e => by cases e⟩⟩
    | false => exact ⟨S, .inl rfl, hSS.2 hls, fun w'' h => ⟨(fun e => by cases e), fun _ => h⟩⟩
   obtain ⟨Z, hz, hzw, hzz⟩ := hZ
   exact hcall o ho x w' Z hz (hAA.2 hLi) hzw hTT hknow K (fun v w'' hR h1 h2 h3 h4 => hK.out v w'' ⟨hdown', hfree' v w'' hR, hdone' v w'' hR h4, ⟨fun _ => h1, fun e => by simp at e⟩, by simpa [hsl] using hzz w'' h2, h3⟩)
  ·by_cases his : i = s
   ·subst his
    have hcl : (c == i) = false := by simpa using hcs
    have hZ : ∃ Z : World → Prop, (Z = A ∨ Z = A') ∧ Z w' ∧ (∀ w'', Z w'' → (L c = true → A' w'') ∧ (L c = false → A w'')) := by
     cases hls : L c with
     | true => exact ⟨A', .inr rfl, hAA.1 hls, fun w'' h => ⟨fun _ => h, fun e => by cases e⟩⟩
     | false => exact ⟨A, .inl rfl, hAA.2 hls, fun w'' h => ⟨(fun e => by cases e), fun _ => h⟩⟩
    obtain ⟨Z, hz, hzw, hzz⟩ := hZ
    exact hstore o ho x w' Z hz (hSS.2 hLi) hzw hTT hknow K (fun v w'' hR h1 h2 h3 h4 => hK.out v w'' ⟨hdown', hfree' v w'' hR, hdone' v w'' hR h4, by simpa [hcl] using hzz w'' h2, ⟨fun _ => h1, fun e => by simp at e⟩, h3⟩)
   ·have hcl : (c == i) = false := by simpa using fun e => hic e.symm
    have hsl : (s == i) = false := by simpa using fun e => his e.symm
    exact hplain i o ho hic his x w' hTT hknow K (fun v w'' hR k1 k2 k3 k4 h3 h4 => hK.out v w'' ⟨hdown', hfree' v w'' hR, hdone' v w'' hR h4, by simpa [hcl] using (⟨fun h => k2 (hAA.1 h), fun h => k1 (hAA.2 h)⟩ : (L c = true → A' w'') ∧ (L c = false → A w'')), by simpa [hsl] using (⟨fun h => k4 (hSS.1 h), fun h => k3 (hSS.2 h)⟩ : (L s = true → S' w'') ∧ (L s = false → S w'')), h3⟩)
 ·intro L x w' ⟨_, hfree, hdone, hAA, hSS, hTT⟩ hall
  refine hend x w' (hAA.1 (hall c hc)) (hSS.1 (hall s hs)) hTT fun t ht => ?_
  cases hno : noDst ops t with
  | true => exact hfree t ht hno
  | false =>
   unfold noDst at hno
   rw [List.all_eq_false] at hno
   obtain ⟨k, hk, hkd⟩ := hno
   have hd : dstB ops k = some t := by simpa using hkd
   exact hdone k t (List.mem_range.1 hk) hd (hall k (List.mem_range.1 hk))
end Go.Proofs.YtkhebanpplokdaaGreatDoor
