
/- A region that draws its order inside a fence: all operations but the last few, in one forced order, are quiet: one walk. -/
import Derived.StillTail
import Derived.Sort.QuietThIn
import Derived.Sort.BigQuietIn
import Derived.Sort.QuietIn
import Derived.TacticsIn
namespace Go.Proofs.Ytoncfogihiapiaa
section
variable {F : Fence} {n : Nat} {P : Program} {ops : Array Oper} {md : Region.Mode} {C : World → Prop}
/-- whatever order the head is walked in -/
def wpAnyLQ (F : Fence) (n : Nat) (P : Program) (md : Region.Mode) (ops : Array Oper) (C : World → Prop) (N : Nat) (L : Array Bool → Act → Prop) : Nat → Array Bool → Act → Prop
  | 0, listed, a => L listed a
  | f + 1, listed, a =>
    Region.ready md ops listed ≠ [] ∧ ∀ i ∈ Region.ready md ops listed, i < N ∧ qOpIn F n P ops C i (wpAnyLQ F n P md ops C N L f (listed.setIfInBounds i true)) a
theorem wpAnyIn_of_headQ {N g : Nat} {L : Array Bool → Act → Prop} {Q' : Exit → Act → World → Prop} (hro : F.round = none) (hL : ∀ listed a w, C w → L listed a → wpAnyIn F n P md ops Q' g listed a w) :
    ∀ (f : Nat) (listed : Array Bool) (a : Act) (w : World), C w → wpAnyLQ F n P md ops C N L f listed a → wpAnyIn F n P md ops Q' (f + g) listed a w
  | 0, listed, a, w, hw, h => by rw [Nat.zero_add]; exact hL _ _ _ hw h
  | f + 1, listed, a, w, hw, h => by
    rw [show f + 1 + g = (f + g) + 1 by omega]
    exact ⟨fun h0 => absurd h0 h.1, fun i hi => wpOpIn_of_qOpIn hro hw (fun a' w' hw' h' => wpAnyIn_of_headQ hro hL f _ a' w' hw' h') (h.2 i hi).2⟩
theorem wpAnyLQ_first {N i : Nat} {oi : Oper} {v : Value} {L : Array Bool → Act → Prop} (hi : ops[i]? = some oi) (hsel : ∀ (j : Nat) (o : Oper) cs b, ops[j]? = some o → o.op ≠ .select cs b)
    (hs : Region.sinkB md ops N = true) (hc : Region.chainB md ops N = true) (hn : N < ops.size) (hin : i < N)
    (hdone : ∀ listed a, L listed a → ∀ j ∈ Region.ready md ops listed, N ≤ j) :
    ∀ (f : Nat) (listed : Array Bool) (a : Act), HeadInv md ops N listed →
      (∀ j oj, ops[j]? = some oj → j ≠ i → listed.getD j true = false → (∀ e ∈ oj.after, Region.binds md e = true → e.on ≠ i) → oi.apart ops oj = true) →
      i ∈ Region.ready md ops listed → YieldsQuiet F n P ops C oi v a →
      wpAnyLQ F n P md ops C N L f (listed.setIfInBounds i true) (a.put oi.dst v) → wpAnyLQ F n P md ops C N L (f + 1) listed a := by
  intro f
  induction f with
  | zero =>
    intro listed a inv _ hr hy H
    have hun := (mem_ready.1 hr).1
    refine ⟨fun h => (by rw [h] at hr; cases hr), fun j hj => ?_⟩
    have hjn : j < N := by
      rcases Nat.lt_or_ge j N with h | h
      · exact h
      · exact absurd hj (tail_waits hs hc hn inv _ i rfl hin hun j h)
    refine ⟨hjn, ?_⟩
    by_cases hji : j = i
    · subst hji; exact hy.qOpIn hi H
    · have := hdone _ _ H j (ready_mono hj hji)
      omega
  | succ f ih =>
    intro listed a inv hfree hr hy H
    have hun := (mem_ready.1 hr).1
    refine ⟨fun h => (by rw [h] at hr; cases hr), fun j hj => ?_⟩
    have hjn : j < N := by
      rcases Nat.lt_or_ge j N with h | h
      · exact h
      · exact absurd hj (tail_waits hs hc hn inv _ i rfl hin hun j h)
    refine ⟨hjn, ?_⟩
    by_cases hji : j = i
    · subst hji; exact hy.qOpIn hi H
    · have h1 := (H.2 j (ready_mono hj hji)).2
      obtain ⟨hjun, oj, hoj, hall⟩ := mem_ready.1 hj
      have hnot : ∀ e ∈ oj.after, Region.binds md e = true → e.on ≠ i := fun e he hb heq => by
        have h1 := hall e he hb
        rw [heq, getD_both hun] at h1
        cases h1
      have h2 := qOpIn_put hoj (hfree j oj hoj hji hjun hnot) (fun cs b => hsel i oi cs b hi) (fun cs b => hsel j oj cs b hoj) hy h1
      have hfree' : ∀ k ok, ops[k]? = some ok → k ≠ i → (listed.setIfInBounds j true).getD k true = false →
          (∀ e ∈ ok.after, Region.binds md e = true → e.on ≠ i) → oi.apart ops ok = true := fun k ok hk hki hun hno => by
        refine hfree k ok hk hki ?_ hno
        by_cases hjk : j = k
        · subst hjk; exact hjun
        · rw [getD_set_ne true hjk] at hun; exact hun
      refine qOpIn_mono (fun a' h3 => ih (listed.setIfInBounds j true) a' (inv.set hj hjn) hfree' (ready_mono hr (Ne.symm hji)) h3.1 ?_) h2
      rw [Array.setIfInBounds_comm _ _ hji]
      exact h3.2
theorem wpAnyIn_of_seq {Q' : Exit → Act → World → Prop} : ∀ (l : List Oper) (k : Nat) (listed : Array Bool) (a : Act) (w : World), (∀ j, l[j]? = ops[k + j]?) →
    Region.seqB md ops l.length k listed = true → wpListIn F n P ops Q' l a w → wpAnyIn F n P md ops Q' l.length listed a w
  | [], _, _, _, _, _, hB, h => ⟨by simpa [Region.seqB] using hB, h⟩
  | o :: l, k, listed, a, w, hl, hB, h => by
    have h0 : ops[k]? = some o := by simpa using (hl 0).symm
    simp only [List.length_cons, Region.seqB, Bool.and_eq_true, decide_eq_true_eq] at hB
    refine ⟨fun h1 => (by rw [hB.1] at h1; cases h1), fun i hi => ?_⟩
    rw [hB.1] at hi
    have hik : i = k := by simpa using hi
    subst hik
    have hw : wpOpIn F n P ops Q' i (wpListIn F n P ops Q' l) a w := by unfold wpOpIn; simp only [h0]; exact h
    exact wpOpIn_mono (fun a' w' h' => wpAnyIn_of_seq l (i + 1) _ a' w' (fun j => by have := hl (j + 1); simpa [Nat.add_assoc, Nat.add_comm 1 j] using this) hB.2 h') hw
theorem wpAnyLQ_lex {N g : Nat} {Lq : Act → Prop} (hsel : Region.noSelect ops = true) (hs : Region.sinkB md ops N = true) (hc : Region.chainB md ops N = true) (hn : N < ops.size) :
    ∀ (l : List Oper) (k : Nat) (listed : Array Bool) (a : Act), (∀ j, j < l.length → l[j]? = ops[k + j]?) → k + l.length = N → HeadInv md ops N listed →
    Region.lexHead md ops g l.length k listed = true → wpQuietIn F n P ops C Lq l a →
    wpAnyLQ F n P md ops C N (fun listed' a' => Region.seqB md ops g N listed' = true ∧ Lq a') l.length listed a
  | [], k, listed, a, _, hk, _, hB, h => by
    have : k = N := by simpa using hk
    subst this
    exact ⟨by simpa [Region.lexHead] using hB, h⟩
  | o :: l, k, listed, a, hl, hk, inv, hB, h => by
    have h0 : ops[k]? = some o := by simpa using (hl 0 (by simp)).symm
    simp only [List.length_cons, Region.lexHead, Bool.and_eq_true] at hB
    obtain ⟨⟨hr, hf⟩, hB'⟩ := hB
    have hkn : k < N := by simp only [List.length_cons] at hk; omega
    have hr' : k ∈ Region.ready md ops listed := by simpa using hr
    have hst : qOpIn F n P ops C k (wpQuietIn F n P ops C Lq l) a := by unfold qOpIn; simp only [h0]; exact h
    obtain ⟨v, hy, hK⟩ := yieldsQuiet_of_qOpIn h0 hst
    exact wpAnyLQ_first h0 (Region.noSelect_spec hsel) hs hc hn hkn (fun listed' a' hL => seqB_ready hL.1) l.length listed a inv (Region.free_spec h0 hf) hr' hy
      (wpAnyLQ_lex hsel hs hc hn l (k + 1) _ _ (fun j hj => by have := hl (j + 1) (by simp; omega); simpa [Nat.add_assoc, Nat.add_comm 1 j] using this) (by simp only [List.length_cons] at hk; omega) (inv.set hr' hkn) hB' hK)
theorem wpIn_region_quiet_tail {id : Nat} {Q : Exit → Act → World → Prop} {a : Act} {w : World} {l : List Oper} (N : Nat) (hro : F.round = none) (hm : P.follows .mixedOrders = true) (hB : Region.lexTailB .any l.toArray N = true)
    (h : wpQuietIn F n P l.toArray (fun w' => ∃ n, w' = w.drewN n) (fun a' => ∀ w', (∃ n, w' = w.drewN n) → wpListIn F n P l.toArray Q (l.drop N) a' w') (l.take N) a) : (Code.region id l.toArray true).wpIn F n P Q a w := by
  simp only [Region.lexTailB, Bool.and_eq_true, decide_eq_true_eq] at hB
  obtain ⟨⟨⟨⟨hsel, hn⟩, hs⟩, hc⟩, hlex⟩ := hB
  have hn' : N < l.length := by simpa using hn
  have htl : (l.take N).length = N := by simp; omega
  have hdl : (l.drop N).length = l.toArray.size - N := by simp
  have inv0 : HeadInv .any l.toArray N (Array.replicate l.toArray.size false) :=
    ⟨by simp, fun j oj _ hl => (by rw [getD_replicate_false] at hl; cases hl), fun t _ ht => getD_in (by simpa using ht) (getD_replicate_false _ _)⟩
  have H := wpAnyLQ_lex (md := .any) (g := l.toArray.size - N) hsel hs hc hn (l.take N) 0 _ a (fun j hj => by
    have hj' : j < N := by rw [htl] at hj; exact hj
    simp [hj']) (by simpa using htl) inv0 (by rw [htl]; exact hlex) h
  refine wpIn_region_any hm ?_
  have := wpAnyIn_of_headQ (Q' := Q) (g := l.toArray.size - N) (C := fun w' => ∃ n, w' = w.drewN n) hro (fun listed a' w' hw' hL => by
    have := wpAnyIn_of_seq (md := .any) (Q' := Q) (l.drop N) N listed a' w' (fun j => by simp [List.getElem?_drop]) (by rw [hdl]; exact hL.1) (hL.2 w' hw')
    rwa [hdl] at this) _ _ _ _ ⟨1, rfl⟩ H
  rw [htl, show N + (l.toArray.size - N) = l.toArray.size by omega] at this
  exact this
def noDefer (o : Oper) : Bool := match o.op with
  | .defer _ => false
  | _ => true
theorem noDefer_spec {o : Oper} (h : noDefer o = true) : ∀ c, o.op ≠ .defer c := by
  intro c e
  simp [noDefer, e] at h
theorem oper_inRound {o : Oper} {a : Act} {w : World} {K : Act → World → Prop} {Q : Exit → Act → World → Prop} {r : Nat} (hnd : noDefer o = true) (hro : F.round = none) (h : o.wpIn F n P a w K Q) : o.wpIn (F.inRound r) n P a w K Q := by
  unfold Oper.wpIn at *
  refine ⟨h.1, ?_⟩
  have h2 := h.2
  rw [hro, Oper.semAt_none] at h2
  rw [Fence.inRound_round, Oper.semAt_some r _ _ (noDefer_spec hnd)]
  generalize (execOp a.eval o).run P w = x at *
  cases x with
  | ok y w' =>
    cases y <;> simp only [Oper.uponIn] at h2 ⊢ <;> exact h2
  | halt y w' => cases y <;> simp only [Oper.uponIn] at h2 ⊢ <;> exact h2
theorem wpAnyIn_inRound {Q : Exit → Act → World → Prop} {r : Nat} (hro : F.round = none) (hnd : ∀ (i : Nat) (o : Oper), ops[i]? = some o → noDefer o = true) : ∀ (fuel : Nat) (listed : Array Bool) (a : Act) (w : World),
    wpAnyIn F n P md ops Q fuel listed a w → wpAnyIn (F.inRound r) n P md ops Q fuel listed a w
  | 0, _, _, _, h => h
  | fuel + 1, listed, a, w, h => ⟨h.1, fun i hi => by
      have h1 := h.2 i hi
      have h2 := wpOpIn_mono (fun a' w' h' => wpAnyIn_inRound (r := r) hro hnd fuel _ a' w' h') h1
      unfold wpOpIn at h2 ⊢
      cases ho : ops[i]? with
      | none => simpa [ho] using h2
      | some o =>
        simp only [ho] at h2 ⊢
        split
        · rename_i hw; simp only [hw, if_true] at h2; exact oper_inRound (hnd i o ho) hro h2
        · rename_i hw; simp only [hw] at h2; exact h2⟩
theorem wpIn_region_quiet_round {id r : Nat} {Q : Exit → Act → World → Prop} {a : Act} {w : World} {l : List Oper} (hro : F.round = none) (hm : P.follows .mixedOrders = true) (hB : Region.lexB .any l.toArray = true) (hnd : l.all noDefer = true)
    (h : wpQuietIn F n P l.toArray (fun w' => ∃ n, w' = w.drewN n) (fun a' => ∀ w', (∃ n, w' = w.drewN n) → Q .normal a' w') l a) : (Code.region id l.toArray true).wpIn (F.inRound r) n P Q a w := by
  simp only [Region.lexB, Bool.and_eq_true] at hB
  refine wpIn_region_any hm (wpAnyIn_inRound hro (fun i o ho => List.all_eq_true.1 hnd o ?_) _ _ _ _ (wpAnyIn_of_quiet (Q := fun a' => ∀ w', (∃ n, w' = w.drewN n) → Q .normal a' w') (C := fun w' => ∃ n, w' = w.drewN n) hro (fun _ w' hw' h => h w' hw') _ _ _ _ ⟨1, rfl⟩ ?_))
  · exact List.mem_of_getElem? (by simpa using ho)
  · have := wpAnyQIn_lex (F := F) (n := n) (C := fun w' => ∃ n, w' = w.drewN n) (md := .any) hB.1 l 0 (Array.replicate l.toArray.size false) a (by simp) (by simpa using hB.2) h
    simpa using this
end
end Go.Proofs.Ytoncfogihiapiaa
