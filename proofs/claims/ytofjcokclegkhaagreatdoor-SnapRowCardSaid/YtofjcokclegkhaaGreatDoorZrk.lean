/- Merged texts (TailIn, RingM, RingQ, RingO, RingW, RingX). -/
import Derived.StillTail
import Derived.Sort.QuietThIn
import Derived.Sort.BigQuietIn
import Derived.Sort.QuietIn
import Derived.TacticsIn
import Derived.RangeFuncNested
import Derived.RangeFuncBound
import Derived.RangeFuncCalls
import Derived.RangeFuncLeaves
import Derived.RangeFuncBox
import Derived.Shelf.Abstract
import Derived.Shelf.RegionOpen
import Derived.OwnWalkIn
import Derived.TacticsInMore
import Derived.LoopNIn
import Derived.LoopIn
import Derived.Test.YtofjcokclegkhaaGreatDoorZrj
import Derived.Shelf.SlSorted.Search
import Derived.Ground.SlsoProg
import Derived.Maps.OwnIn

/- A region that draws its order inside a fence: all operations but the last few, in one forced order, are quiet: one walk. -/
namespace Go.Proofs.YtofjcokclegkhaaGreatDoor.Rg
section
variable {F : Fence} {n : Nat} {P : Program} {ops : Array Oper} {md : Region.Mode} {C : World → Prop}
/-- whatever order the head is walked in -/
def wpAnyLQ (F : Fence) (n : Nat) (P : Program) (md : Region.Mode) (ops : Array Oper) (C : World → Prop) (N : Nat) (L : Array Bool → Act → Prop) : Nat → Array Bool → Act → Prop
 | 0, listed, a => L listed a
 | f + 1, listed, a =>
  Region.ready md ops listed ≠ [] ∧ ∀ i ∈ Region.ready md ops listed, i < N ∧ qOpIn F n P ops C i (wpAnyLQ F n P md ops C N L f (listed.setIfInBounds i true)) a
theorem wpAnyIn_of_headQ {N g : Nat} {L : Array Bool → Act → Prop} {Q' : Exit → Act → World → Prop} (hro : F.round = none) (hL : ∀ listed a w, C w → L listed a → wpAnyIn F n P md ops Q' g listed a w) :
  ∀ (f : Nat) (listed : Array Bool) (a : Act) (w : World), C w → wpAnyLQ F n P md ops C N L f listed a → wpAnyIn F n P md ops Q' (f + g) listed a w
 | 0, listed, a, w, hw, h => by rw [Nat.zero_add]; exact hL _ _ _ hw h
 | f + 1, listed, a, w, hw, h => by
  rw [show f + 1 + g = (f + g) + 1 by omega]
  exact ⟨fun h0 => absurd h0 h.1, fun i hi => wpOpIn_of_qOpIn hro hw (fun a' w' hw' h' => wpAnyIn_of_headQ hro hL f _ a' w' hw' h') (h.2 i hi).2⟩
theorem wpAnyLQ_first {N i : Nat} {oi : Oper} {v : Value} {L : Array Bool → Act → Prop} (hi : ops[i]? = some oi) (hsel : ∀ (j : Nat) (o : Oper) cs b, ops[j]? = some o → o.op ≠ .select cs b)
  (hs : Region.sinkB md ops N = true) (hc : Region.chainB md ops N = true) (hn : N < ops.size) (hin : i < N)
  (hdone : ∀ listed a, L listed a → ∀ j ∈ Region.ready md ops listed, N ≤ j) :
  ∀ (f : Nat) (listed : Array Bool) (a : Act), HeadInv md ops N listed →
   (∀ j oj, ops[j]? = some oj → j ≠ i → listed.getD j true = false → (∀ e ∈ oj.after, Region.binds md e = true → e.on ≠ i) → oi.apart ops oj = true) →
   i ∈ Region.ready md ops listed → YieldsQuiet F n P ops C oi v a →
   wpAnyLQ F n P md ops C N L f (listed.setIfInBounds i true) (a.put oi.dst v) → wpAnyLQ F n P md ops C N L (f + 1) listed a := by
 intro f
 induction f with
 | zero =>
  intro listed a inv _ hr hy H
  have hun := (mem_ready.1 hr).1
  refine ⟨fun h => (by rw [h] at hr; cases hr), fun j hj => ?_⟩
  have hjn : j < N := by
   rcases Nat.lt_or_ge j N with h | h
   ·exact h
   ·exact absurd hj (tail_waits hs hc hn inv _ i rfl hin hun j h)
  refine ⟨hjn, ?_⟩
  by_cases hji : j = i
  ·subst hji; exact hy.qOpIn hi H
  ·have := hdone _ _ H j (ready_mono hj hji)
   omega
 | succ f ih =>
  intro listed a inv hfree hr hy H
  have hun := (mem_ready.1 hr).1
  refine ⟨fun h => (by rw [h] at hr; cases hr), fun j hj => ?_⟩
  have hjn : j < N := by
   rcases Nat.lt_or_ge j N with h | h
   ·exact h
   ·exact absurd hj (tail_waits hs hc hn inv _ i rfl hin hun j h)
  refine ⟨hjn, ?_⟩
  by_cases hji : j = i
  ·subst hji; exact hy.qOpIn hi H
  ·have h1 := (H.2 j (ready_mono hj hji)).2
   obtain ⟨hjun, oj, hoj, hall⟩ := mem_ready.1 hj
   have hnot : ∀ e ∈ oj.after, Region.binds md e = true → e.on ≠ i := fun e he hb heq => by
    have h1 := hall e he hb
    rw [heq, getD_both hun] at h1
    cases h1
   have h2 := qOpIn_put hoj (hfree j oj hoj hji hjun hnot) (fun cs b => hsel i oi cs b hi) (fun cs b => hsel j oj cs b hoj) hy h1
   have hfree' : ∀ k ok, ops[k]? = some ok → k ≠ i → (listed.setIfInBounds j true).getD k true = false →
     (∀ e ∈ ok.after, Region.binds md e = true → e.on ≠ i) → oi.apart ops ok = true := fun k ok hk hki hun hno => by
    refine hfree k ok hk hki ?_ hno
    by_cases hjk : j = k
    ·subst hjk; exact hjun
    ·rw [getD_set_ne true hjk] at hun; exact hun
   refine qOpIn_mono (fun a' h3 => ih (listed.setIfInBounds j true) a' (inv.set hj hjn) hfree' (ready_mono hr (Ne.symm hji)) h3.1 ?_) h2
   rw [Array.setIfInBounds_comm _ _ hji]
   exact h3.2
theorem wpAnyIn_of_seq {Q' : Exit → Act → World → Prop} : ∀ (l : List Oper) (k : Nat) (listed : Array Bool) (a : Act) (w : World), (∀ j, l[j]? = ops[k + j]?) →
  Region.seqB md ops l.length k listed = true → wpListIn F n P ops Q' l a w → wpAnyIn F n P md ops Q' l.length listed a w
 | [], _, _, _, _, _, hB, h => ⟨by simpa [Region.seqB] using hB, h⟩
 | o :: l, k, listed, a, w, hl, hB, h => by
  have h0 : ops[k]? = some o := by simpa using (hl 0).symm
  simp only [List.length_cons, Region.seqB, Bool.and_eq_true, decide_eq_true_eq] at hB
  refine ⟨fun h1 => (by rw [hB.1] at h1; cases h1), fun i hi => ?_⟩
  rw [hB.1] at hi
  have hik : i = k := by simpa using hi
  subst hik
  have hw : wpOpIn F n P ops Q' i (wpListIn F n P ops Q' l) a w := by unfold wpOpIn; simp only [h0]; exact h
  exact wpOpIn_mono (fun a' w' h' => wpAnyIn_of_seq l (i + 1) _ a' w' (fun j => by have := hl (j + 1); simpa [Nat.add_assoc, Nat.add_comm 1 j] using this) hB.2 h') hw
theorem wpAnyLQ_lex {N g : Nat} {Lq : Act → Prop} (hsel : Region.noSelect ops = true) (hs : Region.sinkB md ops N = true) (hc : Region.chainB md ops N = true) (hn : N < ops.size) :
  ∀ (l : List Oper) (k : Nat) (listed : Array Bool) (a : Act), (∀ j, j < l.length → l[j]? = ops[k + j]?) → k + l.length = N → HeadInv md ops N listed →
  Region.lexHead md ops g l.length k listed = true → wpQuietIn F n P ops C Lq l a →
  wpAnyLQ F n P md ops C N (fun listed' a' => Region.seqB md ops g N listed' = true ∧ Lq a') l.length listed a
 | [], k, listed, a, _, hk, _, hB, h => by
  have : k = N := by simpa using hk
  subst this
  exact ⟨by simpa [Region.lexHead] using hB, h⟩
 | o :: l, k, listed, a, hl, hk, inv, hB, h => by
  have h0 : ops[k]? = some o := by simpa using (hl 0 (by simp)).symm
  simp only [List.length_cons, Region.lexHead, Bool.and_eq_true] at hB
  obtain ⟨⟨hr, hf⟩, hB'⟩ := hB
  have hkn : k < N := by simp only [List.length_cons] at hk; omega
  have hr' : k ∈ Region.ready md ops listed := by simpa using hr
  have hst : qOpIn F n P ops C k (wpQuietIn F n P ops C Lq l) a := by unfold qOpIn; simp only [h0]; exact h
  obtain ⟨v, hy, hK⟩ := yieldsQuiet_of_qOpIn h0 hst
  exact wpAnyLQ_first h0 (Region.noSelect_spec hsel) hs hc hn hkn (fun listed' a' hL => seqB_ready hL.1) l.length listed a inv (Region.free_spec h0 hf) hr' hy
   (wpAnyLQ_lex hsel hs hc hn l (k + 1) _ _ (fun j hj => by have := hl (j + 1) (by simp; omega); simpa [Nat.add_assoc, Nat.add_comm 1 j] using this) (by simp only [List.length_cons] at hk; omega) (inv.set hr' hkn) hB' hK)
theorem wpIn_region_quiet_tail {id : Nat} {Q : Exit → Act → World → Prop} {a : Act} {w : World} {l : List Oper} (N : Nat) (hro : F.round = none) (hm : P.follows .mixedOrders = true) (hB : Region.lexTailB .any l.toArray N = true)
  (h : wpQuietIn F n P l.toArray (fun w' => ∃ n, w' = w.drewN n) (fun a' => ∀ w', (∃ n, w' = w.drewN n) → wpListIn F n P l.toArray Q (l.drop N) a' w') (l.take N) a) : (Code.region id l.toArray true).wpIn F n P Q a w := by
 simp only [Region.lexTailB, Bool.and_eq_true, decide_eq_true_eq] at hB
 obtain ⟨⟨⟨⟨hsel, hn⟩, hs⟩, hc⟩, hlex⟩ := hB
 have hn' : N < l.length := by simpa using hn
 have htl : (l.take N).length = N := by simp; omega
 have hdl : (l.drop N).length = l.toArray.size - N := by simp
 have inv0 : HeadInv .any l.toArray N (Array.replicate l.toArray.size false) :=
  ⟨by simp, fun j oj _ hl => (by rw [getD_replicate_false] at hl; cases hl), fun t _ ht => getD_in (by simpa using ht) (getD_replicate_false _ _)⟩
 have H := wpAnyLQ_lex (md := .any) (g := l.toArray.size - N) hsel hs hc hn (l.take N) 0 _ a (fun j hj => by
  have hj' : j < N := by rw [htl] at hj; exact hj
  simp [hj']) (by simpa using htl) inv0 (by rw [htl]; exact hlex) h
 refine wpIn_region_any hm ?_
 have := wpAnyIn_of_headQ (Q' := Q) (g := l.toArray.size - N) (C := fun w' => ∃ n, w' = w.drewN n) hro (fun listed a' w' hw' hL => by
  have := wpAnyIn_of_seq (md := .any) (Q' := Q) (l.drop N) N listed a' w' (fun j => by simp [List.getElem?_drop]) (by rw [hdl]; exact hL.1) (hL.2 w' hw')
  rwa [hdl] at this) _ _ _ _ ⟨1, rfl⟩ H
 rw [htl, show N + (l.toArray.size - N) = l.toArray.size by omega] at this
 exact this
def noDefer (o : Oper) : Bool := match o.op with
 | .defer _ => false
 | _ => true
theorem noDefer_spec {o : Oper} (h : noDefer o = true) : ∀ c, o.op ≠ .defer c := by
 intro c e
 simp [noDefer, e] at h
theorem oper_inRound {o : Oper} {a : Act} {w : World} {K : Act → World → Prop} {Q : Exit → Act → World → Prop} {r : Nat} (hnd : noDefer o = true) (hro : F.round = none) (h : o.wpIn F n P a w K Q) : o.wpIn (F.inRound r) n P a w K Q := by
 unfold Oper.wpIn at *
 refine ⟨h.1, ?_⟩
 have h2 := h.2
 rw [hro, Oper.semAt_none] at h2
 rw [Fence.inRound_round, Oper.semAt_some r _ _ (noDefer_spec hnd)]
 generalize (execOp a.eval o).run P w = x at *
 cases x with
 | ok y w' =>
  cases y <;> simp only [Oper.uponIn] at h2 ⊢ <;> exact h2
 | halt y w' => cases y <;> simp only [Oper.uponIn] at h2 ⊢ <;> exact h2
theorem wpAnyIn_inRound {Q : Exit → Act → World → Prop} {r : Nat} (hro : F.round = none) (hnd : ∀ (i : Nat) (o : Oper), ops[i]? = some o → noDefer o = true) : ∀ (fuel : Nat) (listed : Array Bool) (a : Act) (w : World),
  wpAnyIn F n P md ops Q fuel listed a w → wpAnyIn (F.inRound r) n P md ops Q fuel listed a w
 | 0, _, _, _, h => h
 | fuel + 1, listed, a, w, h => ⟨h.1, fun i hi => by
   have h1 := h.2 i hi
   have h2 := wpOpIn_mono (fun a' w' h' => wpAnyIn_inRound (r := r) hro hnd fuel _ a' w' h') h1
   unfold wpOpIn at h2 ⊢
   cases ho : ops[i]? with
   | none => simpa [ho] using h2
   | some o =>
    simp only [ho] at h2 ⊢
    split
    ·rename_i hw; simp only [hw, if_true] at h2; exact oper_inRound (hnd i o ho) hro h2
    ·rename_i hw; simp only [hw] at h2; exact h2⟩
theorem wpIn_region_quiet_round {id r : Nat} {Q : Exit → Act → World → Prop} {a : Act} {w : World} {l : List Oper} (hro : F.round = none) (hm : P.follows .mixedOrders = true) (hB : Region.lexB .any l.toArray = true) (hnd : l.all noDefer = true)
  (h : wpQuietIn F n P l.toArray (fun w' => ∃ n, w' = w.drewN n) (fun a' => ∀ w', (∃ n, w' = w.drewN n) → Q .normal a' w') l a) : (Code.region id l.toArray true).wpIn (F.inRound r) n P Q a w := by
 simp only [Region.lexB, Bool.and_eq_true] at hB
 refine wpIn_region_any hm (wpAnyIn_inRound hro (fun i o ho => List.all_eq_true.1 hnd o ?_) _ _ _ _ (wpAnyIn_of_quiet (Q := fun a' => ∀ w', (∃ n, w' = w.drewN n) → Q .normal a' w') (C := fun w' => ∃ n, w' = w.drewN n) hro (fun _ w' hw' h => h w' hw') _ _ _ _ ⟨1, rfl⟩ ?_))
 ·exact List.mem_of_getElem? (by simpa using ho)
 ·have := wpAnyQIn_lex (F := F) (n := n) (C := fun w' => ∃ n, w' = w.drewN n) (md := .any) hB.1 l 0 (Array.replicate l.toArray.size false) a (by simp) (by simpa using hB.2) h
  simpa using this
end
end Go.Proofs.YtofjcokclegkhaaGreatDoor.Rg

/- The ring's methods: Len, round, and what sort.Search asks. -/
namespace Go.Proofs.YtofjcokclegkhaaGreatDoor.Rg
open Go.ChangeShapes Go.WideShapes Go.ChangeAt Go.RowKit Go.Sort Go.Shelf
theorem pts_at {w : World} {a : Option Addr} {n cap : Nat} {xs : List (Int × Int)} (h : Pts w (.slice a n cap) xs) (i : Nat) (hi : i < xs.length) :
  ∃ b off, a = some ⟨b, off, none⟩ ∧ b < w.heap.size ∧ w.cell? ⟨b, off + i * 2, none⟩ = some (.int .u64 xs[i].1) ∧ w.cell? ⟨b, off + i * 2 + 1, none⟩ = some (.int .i64 xs[i].2) := by
 obtain ⟨_, a', cap', hv, _, hc⟩ := h
 cases hv
 obtain ⟨b, off, ha, hb, hc⟩ := hc i xs[i] (List.getElem?_eq_getElem hi)
 exact ⟨b, off, ha, hb, by simpa using hc 0 _ rfl, by simpa using hc 1 _ rfl⟩
theorem cell_of2' {w : World} {B : Nat} {a b : Value} {t : TypeId} (h : w.heap[B]? = some (.cells #[a, b] t (0, 0))) : w.cell? ⟨B, 1, none⟩ = some b := by simp [World.cell?, h]
set_option maxHeartbeats 1000000 in
theorem geq_any {w : World} {b1 b2 B : Nat} {key : Int} {a : Option Addr} {cap : Nat} {P : List (Int × Int)} (i : Nat) (hi : i < P.length)
  (h1 : w.cell? ⟨b1, 0, none⟩ = some (.pointer (some ⟨B, 0, none⟩))) (h2 : w.cell? ⟨b2, 0, none⟩ = some (.int .u64 key)) (hB : w.cell? ⟨B, 0, none⟩ = some (.slice a P.length cap)) (hP : Pts w (.slice a P.length cap) P) :
  Calls Tryz.prog 71 #[.int .i64 i, .pointer (some ⟨b1, 0, none⟩), .pointer (some ⟨b2, 0, none⟩)] w fun e w' => e = .returned (.bool (!decide (P[i].1 < key))) ∧ ∃ q, w' = w.drewN q := by
 have hl := hP.1
 obtain ⟨b, off, rfl, hb, c0, _⟩ := pts_at hP i hi
 have HP := hide hP; clear hP
 have hi0 : (0 : Int) ≤ (i : Int) := Int.natCast_nonneg _
 have hi1 : (i : Int) < (P.length : Int) := by omega
 obtain ⟨x, hx⟩ : ∃ x, P[i].1 = x := ⟨_, rfl⟩
 rw [hx] at c0 ⊢
 clear hx
 go_enter Tryz.func71, Tryz.ntmps71
 go_wp2_with fail
 go_quiet (fail)
 go_wp2_with fail
 go_ret
 refine ⟨?_, _, rfl⟩
 refine ret_bool ?_
 by_cases h : x < key <;> simp [h] <;> omega
set_option maxHeartbeats 1000000 in
theorem round_mk (B : Nat) (key : Int) (w : World) (F : Fence) (m : Nat) (hF : F.fn 36) (hro : F.round = none) :
  CallsIn F m Tryz.prog 36 #[.pointer (some ⟨B, 0, none⟩), .int .u64 key] w fun e w' => e = .returned (.func (.func 69) #[] #[.pointer (some ⟨w.heap.size, 0, none⟩), .pointer (some ⟨w.heap.size + 1, 0, none⟩)]) ∧ w' = (w.alloc (.cells #[.pointer (some ⟨B, 0, none⟩)] 64)).alloc (.cells #[.int .u64 key] 69) := by
 refine callsIn_of_wp Tryz.func36 rfl hF ?_ hro
 simp only [Tryz.ntmps36, List.size_toArray, List.length_cons, List.length_nil, Nat.reduceAdd, Nat.reduceSub, Array.replicate_succ, Array.replicate_zero, List.push_toArray, List.append_toArray, List.nil_append, List.cons_append]
 gi_wp2
 go_ret
 exact ⟨rfl, rfl⟩
end Go.Proofs.YtofjcokclegkhaaGreatDoor.Rg

/- once round: the ring's points, handed out. -/
namespace Go.Proofs
open Go.Shelf
def Tryz.lSearch_ren : Go.Shelf.Ren := ⟨fun | 16 => 70 | n => n, fun | 3 => 3 | 35 => 143 | 4 => 4 | 38 => 165 | n => n, fun | n => n⟩
theorem Tryz.lSearch : Go.Proofs.SlLaysO.n16 Tryz.prog Tryz.lSearch_ren := {
  mixed := by kernel_rfl
  f16 := Tryz.func70.trans (congrArg some (by kernel_rfl))
  t3 := Tryz.underlying3
  a3 := Tryz.isAgg3
  z3 := Tryz.sizeOf3
  v3 := Tryz.zeroValue3
  t4 := Tryz.underlying4
  a4 := Tryz.isAgg4
  z4 := Tryz.sizeOf4
  v4 := Tryz.zeroValue4
  t35 := Tryz.underlying143
  a35 := Tryz.isAgg143
  z35 := Tryz.sizeOf143
  v35 := Tryz.zeroValue143
  t38 := Tryz.underlying165
  a38 := Tryz.isAgg165
  z38 := Tryz.sizeOf165
  v38 := Tryz.zeroValue165 }
end Go.Proofs
namespace Go.Proofs.YtofjcokclegkhaaGreatDoor.Rg
open Go.ChangeShapes Go.WideShapes Go.ChangeAt Go.RowKit Go.Sort Go.Shelf
/-- sort.Search over the points -/
theorem search_any {w : World} {b1 b2 B : Nat} {key : Int} {a : Option Addr} {cap : Nat} {P : List (Int × Int)} (hsort : P.Pairwise (fun x y => leP x y = true)) (hl : P.length ≤ 100000)
  (h1 : w.cell? ⟨b1, 0, none⟩ = some (.pointer (some ⟨B, 0, none⟩))) (h2 : w.cell? ⟨b2, 0, none⟩ = some (.int .u64 key)) (hB : w.cell? ⟨B, 0, none⟩ = some (.slice a P.length cap)) (hP : Pts w (.slice a P.length cap) P) :
  Calls Tryz.prog 70 #[.int .i64 P.length, .func (.func 71) #[] #[.pointer (some ⟨b1, 0, none⟩), .pointer (some ⟨b2, 0, none⟩)]] w fun e w' => e = .returned (.int .i64 (cntK key P)) ∧ ∃ q os, w' = grow (w.drewN q) os := by
 have hcnt : (List.range P.length).countP (fun i => !(!decide ((P.getD i (0, 0)).1 < key))) = cntK key P := by
  unfold cntK
  have e : P = (List.range P.length).map (fun i => P.getD i (0, 0)) := by
   apply List.ext_getElem
   ·simp
   ·intro i h1 h2; simp [h1]
  conv => rhs; rw [e]
  rw [List.countP_map]
  simp [Function.comp_def]
 have hext : ∀ (m : Nat) (os : Array Obj), Ext w (grow (w.drewN m) os) := fun m os => below_grown_sl _ w m os (Nat.le_refl _)
 have h := Any.sort_Search Tryz.lSearch 71 #[.pointer (some ⟨b1, 0, none⟩), .pointer (some ⟨b2, 0, none⟩)] P.length (fun i => !decide ((P.getD i (0, 0)).1 < key)) w
  (enters_of Tryz.func71 (by kernel_rfl) rfl) (by omega)
  (fun m os i hi => by
   have e := hext m os
   have c : ∀ {p : Addr} {u : Value}, w.cell? p = some u → (grow (w.drewN m) os).cell? p = some u := fun {p u} hp => (e.cell (p := p) (World.block_lt_of_cell? w _ hp)).trans hp
   refine (geq_any i hi (c h1) (c h2) (c hB) (hP.ext e)).mono ?_
   rintro e' w' ⟨rfl, q, rfl⟩
   refine ⟨by simp [hi], q, #[], by simp⟩)
  (fun x y hxy hy hp => by
   have hlt : x < P.length := by omega
   simp only [hlt, hy, List.getD_eq_getElem?_getD, List.getElem?_eq_getElem, Option.getD_some, Bool.not_eq_true', decide_eq_false_iff_not] at hp ⊢
   rcases Nat.lt_or_eq_of_le hxy with h | h
   ·have := (leP_iff _ _).1 (List.pairwise_iff_getElem.1 hsort x y hlt hy h)
    omega
   ·subst h; exact hp)
 rw [hcnt] at h
 exact h

/-- every block of cells but some stands -/
def KpX (S : Nat → Prop) (W W' : World) : Prop := W.heap.size ≤ W'.heap.size ∧ ∀ k c t f, W.heap[k]? = some (.cells c t f) → ¬ S k → W'.heap[k]? = some (.cells c t f)
theorem KpX.refl (S : Nat → Prop) (W : World) : KpX S W W := ⟨Nat.le_refl _, fun _ _ _ _ h _ => h⟩
theorem KpX.trans {S : Nat → Prop} {A B C : World} (h : KpX S A B) (k : KpX S B C) : KpX S A C :=
 ⟨Nat.le_trans h.1 k.1, fun i c t f hi hne => k.2 i c t f (h.2 i c t f hi hne) hne⟩
theorem KpX.grown (S : Nat → Prop) {W W' : World} {row : Option Nat} (h : W.grownBy W' row) (hr : ∀ r, row = some r → S r) : KpX S W W' :=
 ⟨h.size, fun k _ _ _ hk hne => (h.block k (Array.getElem?_eq_some_iff.1 hk).1 (fun e => hne (hr k e.symm))).trans hk⟩
theorem KpX.alloc (S : Nat → Prop) (W : World) (o : Obj) : KpX S W (W.alloc o) :=
 ⟨by simp, fun k c t f h _ => (Below.heap_alloc W o k (Array.getElem?_eq_some_iff.1 h).1).trans h⟩
theorem KpX.setCell {S : Nat → Prop} (W : World) (u : Value) (B o : Nat) (hB : S B) : KpX S W (W.setCell ⟨B, o, none⟩ u) :=
 ⟨by simp [World.setCell], fun k c t f h hne => (Below.heap_setCell W _ u k (fun e => hne (by rw [e]; exact hB))).trans h⟩
theorem KpX.putObj (S : Nat → Prop) {W : World} {l : Nat} {o o' : Obj} (hl : W.heap[l]? = some o) (ho : o.isCells = false) : KpX S W (W.putObj l o') :=
 ⟨by simp, fun k c t f h _ => (World.putObj_heap_other (fun e => by subst e; rw [hl] at h; cases h; cases ho)).trans h⟩
theorem KpX.cell {S : Nat → Prop} {W W' : World} (h : KpX S W W') {p : Addr} {u : Value} (hp : W.cell? p = some u) (hne : ¬ S p.block) : W'.cell? p = some u := by
 unfold World.cell? at hp ⊢
 cases hb : W.heap[p.block]? with
 | none => simp [hb] at hp
 | some o =>
  cases o with
  | cells c t f => rw [h.2 _ c t f hb hne]; simpa [hb] using hp
  | _ => simp [hb] at hp
theorem grownBy_grow (W : World) (q : Nat) (os : Array Obj) : W.grownBy (grow (W.drewN q) os) none :=
 ⟨rfl, rfl, rfl, by simp [World.drewN], fun k hk _ => by
  show (W.heap ++ os)[k]? = _
  rw [Array.getElem?_append_left hk]⟩

def encY (x : Int) : Array Value := #[.int .i64 x]
def idsK (key : Int) (P : List (Int × Int)) : List Int := (rotK key P).map Prod.snd
theorem idsK_length (key : Int) (P : List (Int × Int)) (hP : P.Pairwise (fun x y => leP x y = true)) : (idsK key P).length = P.length := by rw [idsK, List.length_map, rotK_length key P hP]
theorem idsK_get (key : Int) (P : List (Int × Int)) (hP : P.Pairwise (fun x y => leP x y = true)) (i : Nat) (hi : i < P.length) (hm : (cntK key P + i) % P.length < P.length) (hi' : i < (idsK key P).length) : (idsK key P)[i] = P[(cntK key P + i) % P.length].2 := by
 have h := rotK_get key P hP i hi
 rw [List.getElem?_eq_getElem hm] at h
 have h2 : (idsK key P)[i]? = some P[(cntK key P + i) % P.length].2 := by
  rw [idsK, List.getElem?_map, h]; rfl
 rw [List.getElem?_eq_getElem hi'] at h2
 exact Option.some.inj h2
set_option maxRecDepth 100000 in
set_option maxHeartbeats 4000000 in
theorem seq_round (n : Nat) (hn : 1 ≤ n) (l b1 b2 B : Nat) (key : Int) (a : Option Addr) (cap : Nat) (P : List (Int × Int)) (S : Nat → Prop) (hsort : P.Pairwise (fun x y => leP x y = true)) (hl : P.length ≤ 100000)
  (J Jx : List Int → World → Prop) (W : World) (hJ : AbidesFrom W.heap.size J)
  (hs : ∀ W', KpX S W W' → W'.cell? ⟨b1, 0, none⟩ = some (.pointer (some ⟨B, 0, none⟩)) ∧ W'.cell? ⟨b2, 0, none⟩ = some (.int .u64 key) ∧ W'.cell? ⟨B, 0, none⟩ = some (.slice a P.length cap) ∧ Pts W' (.slice a P.length cap) P)
  (hY : ∀ pre x W1, J pre W1 → pre.length < P.length → YieldAt Fence.wide (n - 1) Tryz.prog l (encY x) W1 fun e W' =>
   (e = .returned (.bool true) ∧ J (pre ++ [x]) W' ∧ KpX S W1 W') ∨ (e = .returned (.bool false) ∧ Jx (pre ++ [x]) W'))
  (h0 : J [] W) :
  CallsIn Fence.wide n Tryz.prog 69 #[.func (.yield l) #[] #[], .pointer (some ⟨b1, 0, none⟩), .pointer (some ⟨b2, 0, none⟩)] W fun e W' => (∃ v, e = .returned v) ∧
   ((∃ ys, ys = idsK key P ∧ J ys W') ∨ (∃ pre, (∃ k, k ≤ P.length ∧ pre = (idsK key P).take k) ∧ Jx pre W')) := by
 obtain ⟨c1, c2, c3, hP⟩ := hs W (KpX.refl _ _)
 have hsearch := search_any (key := key) hsort hl c1 c2 c3 hP
 have HSE := hide hsearch; clear hsearch
 have hIL := idsK_length key P hsort
 have hcl := cntK_le key P
 have hidx : ∀ k, k < P.length → ∃ m, (cntK key P + k) % P.length = m ∧ ∃ hm : m < P.length, ∀ (h : k < (idsK key P).length), (idsK key P)[k] = P[m].2 := fun k hk =>
  ⟨_, rfl, Nat.mod_lt _ (by omega), fun h => idsK_get key P hsort k hk _ h⟩
 obtain ⟨L, hL⟩ : ∃ L, idsK key P = L := ⟨_, rfl⟩
 obtain ⟨cn, hcn⟩ : ∃ cn, cntK key P = cn := ⟨_, rfl⟩
 rw [hL, hcn] at hidx
 rw [hL] at hIL
 rw [hcn] at HSE hcl
 have HID := hide hidx
 have HS := hide hs
 have HL := hide hL
 clear hidx hs hcn hP hsort
 have hl' : (P.length : Int) ≤ 100000 := by omega
 refine callsIn_of_wp Tryz.func69 rfl trivial ?_ rfl
 simp only [Tryz.ntmps69, List.size_toArray, List.length_cons, List.length_nil, Nat.reduceAdd, Nat.reduceSub, Array.replicate_succ, Array.replicate_zero, List.push_toArray, List.append_toArray, List.nil_append, List.cons_append]
 gi_wp2_with fail
 refine ⟨trivial, (callsIn_wide.2 HSE.out).mono ?_⟩
 rintro e W1 ⟨rfl, q, os, hW1⟩
 have g1 : W.grownBy W1 none := hW1 ▸ grownBy_grow W q os
 have J1 := hJ _ _ _ none h0 g1 (fun r e => by cases e)
 have k1 : KpX S W W1 := KpX.grown S g1 (fun r e => by cases e)
 clear hW1 g1
 gi_wp2_with fail
 gi_loopw [16] (fun i wr => ∃ k : Nat, k ≤ P.length ∧ i = .int .i64 k ∧ J (L.take k) wr ∧ KpX S W wr) (fun i _ => P.length - (intOf i).toNat)
 case atStart => exact ⟨0, Nat.zero_le _, rfl, J1, k1⟩
 case round =>
  obtain ⟨k, hk, rfl, hJs, hkp⟩ := hrel
  by_cases hlt : k < P.length
  ·obtain ⟨m, hm, hml, hmL⟩ := HID.out k hlt
   obtain ⟨d1, d2, d3, hP⟩ := HS.out wr hkp
   obtain ⟨b, off, rfl, hbb, _, e2⟩ := pts_at hP m hml
   have hsn : L.take (k+1) = L.take k ++ [P[m].2] := by rw [take_snoc L k (by omega), hmL (by omega)]
   have hlen : (L.take k).length < P.length := by rw [List.length_take]; omega
   obtain ⟨x, hx⟩ : ∃ x, P[m].2 = x := ⟨_, rfl⟩
   rw [hx] at e2 hsn
   have HLEN := hide hlen
   have hw1 : IntKind.i64.wrap ((cn : Int) + (k : Int)) = (cn : Int) + k := IntWalk.i64_in _ (by omega)
   have hw2 : ((cn : Int) + (k : Int)).tmod (P.length : Int) = (m : Int) := by rw [← hm, Int.natCast_emod, Int.natCast_add]; exact Int.tmod_eq_emod_of_nonneg (by omega)
   have hm0 : (0 : Int) ≤ (m : Int) := Int.natCast_nonneg _
   have hm1 : (m : Int) < (P.length : Int) := by omega
   have HSN := hide hsn
   clear hsn hmL hm hx hP hbb hlen
   gi_wp2_with fail
   refine wpIn_region_quiet_tail 13 rfl (by kernel_rfl) (by kernel_rfl) ?_
   simp only [List.take_succ_cons, List.take_zero, List.drop_succ_cons, List.drop_zero]
   repeat (gi_big_quiet_step (fail))
   refine wpQuietIn_nil ?_
   intro w6 hw6
   have g6 : wr.grownBy w6 none := by
    obtain ⟨q6, rfl⟩ := hw6
    exact ⟨rfl, rfl, rfl, Nat.le_refl _, fun _ _ _ => rfl⟩
   have hJ6 := hJ _ _ _ none hJs g6 (fun r e => by cases e)
   have k6 : KpX S wr w6 := KpX.grown S g6 (fun r e => by cases e)
   clear hw6 g6
   obtain ⟨fn, tmps, assign, body, hy, hR⟩ := hY _ x w6 hJ6 HLEN.out
   simp only [encY] at hy
   gi_wp2
   refine hR.mono ?_
   rintro e W3 (⟨rfl, hJ3, hk3⟩ | ⟨rfl, hJx3⟩)
   ·gi_wp2
    go_roundw
    case rel => exact ⟨k + 1, by omega, by go_num, by rw [HSN.out]; exact hJ3, (hkp.trans k6).trans hk3⟩
    case measure => simp [intOf]; omega
   ·gi_wp2
    refine bodyPost_ret (results_none rfl _ _ _) rfl ?_
    exact ⟨⟨_, rfl⟩, .inr ⟨_, ⟨k + 1, by omega, by rw [HL.out]; exact HSN.out.symm⟩, hJx3⟩⟩
  ·obtain rfl : k = P.length := by omega
   gi_wp2
   go_end0
   exact ⟨⟨_, rfl⟩, .inl ⟨_, rfl, by rw [HL.out]; rwa [List.take_of_length_le (by omega)] at hJs⟩⟩
end Go.Proofs.YtofjcokclegkhaaGreatDoor.Rg

/- (*Ring).Of. -/
namespace Go.Proofs.YtofjcokclegkhaaGreatDoor.Rg
open Go.ChangeShapes Go.WideShapes Go.ChangeAt Go.RowKit Go.Sort Go.Shelf
attribute [local go_sem] Oper.semAt_some
/-- a block of cells stands where no block of cells has turned -/
theorem cells_kept {X Y : World} {row : Option Nat} (hg : X.grownBy Y row) (hr : ∀ r, row = some r → ∃ o : Obj, X.heap[r]? = some o ∧ o.isCells = false) {k : Nat} {c : Array Value} {t : TypeId} {f : Nat × Nat} (h : X.heap[k]? = some (.cells c t f)) : Y.heap[k]? = some (.cells c t f) :=
 (hg.block k (Array.getElem?_eq_some_iff.1 h).1 (fun e => by obtain ⟨o, ho, hc⟩ := hr k e.symm; rw [h] at ho; cases ho; cases hc)).trans h
theorem box_other {W : World} {B B' : Nat} {t : TypeId} {v : Value} (h : Boxed W B t v) (hne : B ≠ B') (u : Value) : Boxed (W.setCell ⟨B', 0, none⟩ u) B t v := (Below.heap_setCell W _ u B hne).trans h
theorem seq_stops (n : Nat) (hn : 1 ≤ n) (b1 b2 B : Nat) (key : Int) (a : Option Addr) (cap : Nat) (P : List (Int × Int)) (S : Nat → Prop) (hsort : P.Pairwise (fun x y => leP x y = true)) (hl : P.length ≤ 100000) (w : World)
  (hs : ∀ W W', Below w.heap.size w W → KpX S W W' → W'.cell? ⟨b1, 0, none⟩ = some (.pointer (some ⟨B, 0, none⟩)) ∧ W'.cell? ⟨b2, 0, none⟩ = some (.int .u64 key) ∧ W'.cell? ⟨B, 0, none⟩ = some (.slice a P.length cap) ∧ Pts W' (.slice a P.length cap) P) :
  SeqStopsK Fence.wide n Tryz.prog 69 #[.pointer (some ⟨b1, 0, none⟩), .pointer (some ⟨b2, 0, none⟩)] encY (KpX S) (fun ys => ys = idsK key P) (fun pre => ∃ k, k ≤ P.length ∧ pre = (idsK key P).take k) P.length w :=
 fun l J Jx W hW hJ _ hY h0 => seq_round n hn l b1 b2 B key a cap P S hsort hl J Jx W hJ (fun W' h => hs W W' hW h) hY h0
theorem kpx_sl {α : Type} {enc : α → List Value} {size : Nat} {S : Nat → Prop} {W W' : World} {v : Value} {xs : List α} (h : Sl enc size W v xs) (k : KpX S W W') (hlt : ∀ a n c, v = .slice (some a) n c → xs ≠ [] → ¬ S a.block) : Sl enc size W' v xs := by
 obtain ⟨h1, a, cap, h2, hcap, h3⟩ := h
 refine ⟨h1, a, cap, h2, hcap, fun i x hi => ?_⟩
 obtain ⟨b, off, ha, hb, hc⟩ := h3 i x hi
 refine ⟨b, off, ha, Nat.lt_of_lt_of_le hb k.1, fun j u hu => k.cell (hc j u hu) ?_⟩
 have hne : xs ≠ [] := fun e => by subst e; simp at hi
 exact hlt ⟨b, off, none⟩ _ _ (by rw [h2, ha]) hne
/-- what the walk of the ring's points needs of a ring: it stands below 'base' -/
theorem ring_reads {w : World} {B n : Nat} {a : Option Addr} {cap : Nat} {P : List (Int × Int)} {T : TypeId} (h2 : w.heap[B]? = some (.cells #[.slice a P.length cap, .int .i64 n] T (0, 0))) (h3 : Pts w (.slice a P.length cap) P)
  {W0 : World} (e0 : Ext w W0) {S : Nat → Prop} (hS : ∀ k, k < w.heap.size → ¬ S k) {b1 b2 : Nat} {key : Int} (hb1 : ¬ S b1) (hb2 : ¬ S b2)
  (h4 : W0.cell? ⟨b1, 0, none⟩ = some (.pointer (some ⟨B, 0, none⟩))) (h5 : W0.cell? ⟨b2, 0, none⟩ = some (.int .u64 key)) :
  ∀ W W', Below W0.heap.size W0 W → KpX S W W' → W'.cell? ⟨b1, 0, none⟩ = some (.pointer (some ⟨B, 0, none⟩)) ∧ W'.cell? ⟨b2, 0, none⟩ = some (.int .u64 key) ∧ W'.cell? ⟨B, 0, none⟩ = some (.slice a P.length cap) ∧ Pts W' (.slice a P.length cap) P := by
 intro W W' hW hk
 have c := cell_of2 h2
 have hBl : B < w.heap.size := (Array.getElem?_eq_some_iff.1 h2).1
 refine ⟨hk.cell ((hW.cell (p := ⟨b1, 0, none⟩) (World.block_lt_of_cell? _ _ h4)).trans h4) hb1, hk.cell ((hW.cell (p := ⟨b2, 0, none⟩) (World.block_lt_of_cell? _ _ h5)).trans h5) hb2,
  hk.cell (((Ext.trans e0 hW).cell (p := ⟨B, 0, none⟩) hBl).trans c) (hS B hBl), kpx_sl ((h3.ext e0).ext hW) hk ?_⟩
 intro a' n' c' e hne
 have hpos : 0 < P.length := List.length_pos_iff.2 hne
 obtain ⟨b, off, ha, hb, _⟩ := pts_at h3 0 hpos
 cases e; cases ha
 exact hS b hb

end Go.Proofs.YtofjcokclegkhaaGreatDoor.Rg

/- (*Ring).Row. -/
namespace Go.Proofs.YtofjcokclegkhaaGreatDoor.Rg
open Go.ChangeShapes Go.WideShapes Go.ChangeAt Go.RowKit Go.Sort Go.Shelf
attribute [local go_sem] Oper.semAt_some
theorem own_kept {X Y : World} {row : Option Nat} (hg : X.grownBy Y row) (hr : ∀ r, row = some r → ∃ o : Obj, X.heap[r]? = some o ∧ o.isCells = false) {base : Nat} {e : TypeId} {s n : Nat} {v : Value} {xs : List Value} (h : X.ownsRow base e s v n xs) : Y.ownsRow base e s v n xs := by
 refine ⟨h.1, ?_⟩
 rcases h.2 with hn | ⟨g, cap, cur, rfl, hb, hgg, rest⟩
 ·exact .inl hn
 ·exact .inr ⟨g, cap, cur, rfl, hb, cells_kept hg hr hgg, rest⟩
theorem own_base {X : World} {base base' : Nat} (hb : base' ≤ base) {e : TypeId} {s n : Nat} {v : Value} {xs : List Value} (h : X.ownsRow base e s v n xs) : X.ownsRow base' e s v n xs := by
 refine ⟨h.1, ?_⟩
 rcases h.2 with hn | ⟨g, cap, cur, rfl, hbg, rest⟩
 ·exact .inl hn
 ·exact .inr ⟨g, cap, cur, rfl, by omega, rest⟩
theorem pigeon (l E : List Int) (hn : l.Nodup) (hs : ∀ x ∈ l, x ∈ E) (hl : E.length ≤ l.length) : ∀ x ∈ E, x ∈ l := by
 induction l generalizing E with
 | nil => intro x hx; have h0 : E = [] := List.eq_nil_of_length_eq_zero (by simpa using hl); rw [h0] at hx; exact hx
 | cons a l ih =>
  intro x hx
  have ha := hs a (by simp)
  obtain ⟨h1, h2⟩ := List.nodup_cons.1 hn
  by_cases hxa : x = a
  ·simp [hxa]
  ·refine List.mem_cons_of_mem _ (ih (E.erase a) h2 (fun y hy => ?_) ?_ x ((List.mem_erase_of_ne hxa).2 hx))
   ·exact (List.mem_erase_of_ne (fun e => h1 (by rw [← e]; exact hy))).2 (hs y (List.mem_cons_of_mem _ hy))
   ·rw [List.length_erase_of_mem ha]; simp at hl; omega
theorem putObj_grown {W : World} {D : Nat} {o o' : Obj} (_h : W.heap[D]? = some o) : W.grownBy (W.putObj D o') (some D) :=
 ⟨rfl, rfl, rfl, by simp, fun k hk hne => World.putObj_heap_other (fun e => hne (by rw [e]))⟩
theorem row_ne {v : Value} {g B : Nat} (hv : v.ownBlock = some g) (hne : g ≠ B) : some B ≠ v.ownBlock := by
 rw [hv]; intro e; exact hne (Option.some.inj e).symm
theorem own_cells {X : World} {base : Nat} {e : TypeId} {s n : Nat} {v : Value} {xs : List Value} (h : X.ownsRow base e s v n xs) : ∀ (j : Nat) (o : Obj), v.ownBlock = some j → X.heap[j]? = some o → o.isCells = true := by
 intro j o hj ho
 rcases h.2 with ⟨rfl, _⟩ | ⟨g, cap, cur, rfl, hb, hgg, rest⟩
 ·simp [Value.ownBlock] at hj
 ·simp [Value.ownBlock] at hj
  subst hj
  rw [hgg] at ho; cases ho; rfl
theorem own_set8 {X : World} {base B : Nat} {e t : TypeId} {s n : Nat} {v u : Value} {xs : List Value} (h : X.ownsRow base e s v n xs) (hb : Boxed X B t u) (u' : Value) (hte : t ≠ e := by decide) : (X.setCell ⟨B, 0, none⟩ u').ownsRow base e s v n xs := by
 refine ⟨h.1, ?_⟩
 rcases h.2 with hn | ⟨g, cap, cur, rfl, hbg, hgg, rest⟩
 ·exact .inl hn
 ·refine .inr ⟨g, cap, cur, rfl, hbg, (Below.heap_setCell X _ u' g (fun e' => ?_)).trans hgg, rest⟩
  have hb' : X.heap[B]? = some (.cells #[u] t (0, 0)) := hb
  simp only at e'
  subst e'
  rw [hb'] at hgg
  injection hgg with hgg
  injection hgg with _ h2 _
  exact hte h2
/-- what stands while a row is made -/
def RowJ (s B : Nat) (pre : List Int) (W : World) : Prop :=
 ∃ v g, v.ownBlock = some g ∧ (s < g ∧ g ≠ s + 1 + 1 ∧ g ≠ s + 1 + 1 + 1 ∧ g ≠ s + 1 + 1 + 1 + 1) ∧ Boxed W (s + 1 + 1) 22 v ∧ W.ownsRow (s + 1) 3 1 v (firsts pre).length ((firsts pre).flatMap encI) ∧ Boxed W s 64 (.pointer (some ⟨B, 0, none⟩)) ∧ (firsts pre).length ≤ pre.length
theorem RowJ.kept {s B : Nat} {pre : List Int} {X Y : World} {row : Option Nat} (h : RowJ s B pre X) (hg : X.grownBy Y row) (hr : ∀ r, row = some r → ∃ o : Obj, X.heap[r]? = some o ∧ o.isCells = false) : RowJ s B pre Y := by
 obtain ⟨v, g, h1, h2, h3, h4, h5, h6⟩ := h
 exact ⟨v, g, h1, h2, cells_kept hg hr h3, own_kept hg hr h4, cells_kept hg hr h5, h6⟩
set_option maxRecDepth 100000 in
set_option maxHeartbeats 4000000 in
theorem row_in (key : Int) (B n : Nat) (a : Option Addr) (cap : Nat) (P : List (Int × Int)) (E : List Int) (w : World) (h2 : w.heap[B]? = some (.cells #[.slice a P.length cap, .int .i64 n] 101 (0, 0))) (h3 : Pts w (.slice a P.length cap) P) (hsort : P.Pairwise (fun x y => leP x y = true)) (hl : P.length ≤ 100000)
  (hn : n ≤ 1000) (hE : E.length = n) (hsub : ∀ x ∈ idsK key P, x ∈ E) :
  CallsIn Fence.wide 9 Tryz.prog 19 #[.pointer (some ⟨B, 0, none⟩), .int .u64 key] w fun e w' => ∃ v, e = .returned v ∧ w'.ownsRow w.heap.size 3 1 v (rowOf key P).length ((rowOf key P).flatMap encI) ∧ Ext w w' := by
 have HR := hide h2
 have HP := hide h3
 have cB1 := cell_of2' h2
 have hBl : B < w.heap.size := (Array.getElem?_eq_some_iff.1 h2).1
 clear h2 h3
 have hn0 : (0 : Int) ≤ (n : Int) := Int.natCast_nonneg _
 have hn1 : (n : Int) ≤ 1000 := by omega
 refine callsIn_of_wp_marks Tryz.func19 rfl trivial ?_ rfl
 simp only [Tryz.ntmps19, List.size_toArray, List.length_cons, List.length_nil, Nat.reduceAdd, Nat.reduceSub, Array.replicate_succ, Array.replicate_zero, List.push_toArray, List.append_toArray, List.nil_append, List.cons_append]
 obtain ⟨i0, hi, hz0, hz1, hz2⟩ := info_parts' Tryz.infoI
 obtain ⟨CS, hcs, hmk⟩ : ∃ CS : Array Value, CS.size = n * 1 ∧ ∀ u : World, (Instr.makeSlice 22 (.int .i64 0) (.int .i64 n)).run Tryz.prog u = .ok (.slice (some ⟨u.heap.size, 0, none⟩) 0 n) (u.alloc (.cells CS 3)) :=
  ⟨madeCells (Value.int .i64 0).cells (n * i0.size), by rw [size_madeCells, hz1], fun u => by simpa using run_makeSlice (P := Tryz.prog) u 22 3 i0 _ Tryz.underlying22 hi hz0 .i64 .i64 0 n (by omega) (by omega) (by rw [hz1]; omega) (by rw [hz2]; omega) (by omega)⟩
 gi_wp2_with (refine ⟨trivial, ?_⟩; gi_at_call 36; refine (round_mk _ _ _ _ _ trivial rfl).mono ?_; rintro e w' ⟨rfl, rfl⟩)
 have bR2 := ((((Boxed.new w 64 (.pointer (some ⟨B, 0, none⟩))).alloc (.cells CS 3)).alloc (.cells #[.slice (some ⟨w.heap.size + 1, 0, none⟩) 0 n] 22)).alloc (.cells #[.pointer (some ⟨B, 0, none⟩)] 64)).alloc (.cells #[.int .u64 key] 69)
 have bV := ((Boxed.new ((w.alloc (.cells #[.pointer (some ⟨B, 0, none⟩)] 64)).alloc (.cells CS 3)) 22 (.slice (some ⟨w.heap.size + 1, 0, none⟩) 0 n)).alloc (.cells #[.pointer (some ⟨B, 0, none⟩)] 64)).alloc (.cells #[.int .u64 key] 69)
 have bR := (Boxed.new (((w.alloc (.cells #[.pointer (some ⟨B, 0, none⟩)] 64)).alloc (.cells CS 3)).alloc (.cells #[.slice (some ⟨w.heap.size + 1, 0, none⟩) 0 n] 22)) 64 (.pointer (some ⟨B, 0, none⟩))).alloc (.cells #[.int .u64 key] 69)
 have bK := Boxed.new ((((w.alloc (.cells #[.pointer (some ⟨B, 0, none⟩)] 64)).alloc (.cells CS 3)).alloc (.cells #[.slice (some ⟨w.heap.size + 1, 0, none⟩) 0 n] 22)).alloc (.cells #[.pointer (some ⟨B, 0, none⟩)] 64)) 69 (.int .u64 key)
 have ow : ((((w.alloc (.cells #[.pointer (some ⟨B, 0, none⟩)] 64)).alloc (.cells CS 3)).alloc (.cells #[.slice (some ⟨w.heap.size + 1, 0, none⟩) 0 n] 22)).alloc (.cells #[.pointer (some ⟨B, 0, none⟩)] 64) |>.alloc (.cells #[.int .u64 key] 69)).ownsRow (w.heap.size + 1) 3 1 (.slice (some ⟨w.heap.size + 1, 0, none⟩) 0 n) 0 [] := by
  have := World.ownsRow_made (base := w.heap.size + 1) (e := 3) (size := 1) (w.alloc (.cells #[.pointer (some ⟨B, 0, none⟩)] 64)) CS n (by simp) (by unfold maxLen; omega) hcs
  simp only [World.size_alloc] at this
  exact ((this.alloc _).alloc _).alloc _
 simp only [World.size_alloc] at bV bR bK
 have e0 : Ext w (((((w.alloc (.cells #[.pointer (some ⟨B, 0, none⟩)] 64)).alloc (.cells CS 3)).alloc (.cells #[.slice (some ⟨w.heap.size + 1, 0, none⟩) 0 n] 22)).alloc (.cells #[.pointer (some ⟨B, 0, none⟩)] 64)).alloc (.cells #[.int .u64 key] 69)) :=
  (((((Below.refl _ w).alloc (Nat.le_refl _) _).alloc (by simp) _).alloc (by simp; omega) _).alloc (by simp; omega) _).alloc (by simp; omega) _
 have hsz : (((((w.alloc (.cells #[.pointer (some ⟨B, 0, none⟩)] 64)).alloc (.cells CS 3)).alloc (.cells #[.slice (some ⟨w.heap.size + 1, 0, none⟩) 0 n] 22)).alloc (.cells #[.pointer (some ⟨B, 0, none⟩)] 64)).alloc (.cells #[.int .u64 key] 69)).heap.size = w.heap.size + 5 := by simp
 obtain ⟨W0, hW0⟩ : ∃ W0, (((((w.alloc (.cells #[.pointer (some ⟨B, 0, none⟩)] 64)).alloc (.cells CS 3)).alloc (.cells #[.slice (some ⟨w.heap.size + 1, 0, none⟩) 0 n] 22)).alloc (.cells #[.pointer (some ⟨B, 0, none⟩)] 64)).alloc (.cells #[.int .u64 key] 69)) = W0 := ⟨_, rfl⟩
 rw [hW0] at bR2 bV bR bK ow e0 hsz ⊢
 clear hW0 hmk hcs
 have hreads := ring_reads HR.out HP.out e0 (S := fun k => w.heap.size < k ∧ k ≠ w.heap.size + 1 + 1 + 1 ∧ k ≠ w.heap.size + 1 + 1 + 1 + 1) (fun k hk => by omega) (b1 := w.heap.size + 1 + 1 + 1) (b2 := w.heap.size + 1 + 1 + 1 + 1) (by omega) (by omega) bR.cell bK.cell
 refine wpIn_rangeFunc_ownH rfl (by decide) (gf := 69) (lb := #[.pointer (some ⟨w.heap.size + 1 + 1 + 1, 0, none⟩), .pointer (some ⟨w.heap.size + 1 + 1 + 1 + 1, 0, none⟩)]) rfl trivial (enters_of Tryz.func69 (by kernel_rfl) rfl)
  (seq_stops _ (by decide) (w.heap.size + 1 + 1 + 1) (w.heap.size + 1 + 1 + 1 + 1) B key a cap P (fun k => w.heap.size < k ∧ k ≠ w.heap.size + 1 + 1 + 1 ∧ k ≠ w.heap.size + 1 + 1 + 1 + 1) hsort hl W0 hreads)
  KpX.trans (fun W l o o' _ hl ho _ => KpX.putObj _ hl ho) (Below.refl _ _) (fun _ => rfl)
  (fun pre W => RowJ w.heap.size B pre W ∧ Below w.heap.size w W)
  (fun c pre W => ((RowJ w.heap.size B pre W ∧ Below w.heap.size w W) ∧ ((firsts pre).length = n ∧ c = .exit 0)))
  (OwnFrom.and (fun s X Y row hs hg hr => RowJ.kept hs hg (fun r e => (hr r e).2)) (ownFrom_below (Nat.le_refl _) (by omega)))
  (fun c => OwnFrom.and (OwnFrom.and (fun s X Y row hs hg hr => RowJ.kept hs hg (fun r e => (hr r e).2)) (ownFrom_below (Nat.le_refl _) (by omega))) (fun _ _ _ _ hs _ _ => hs))
  ⟨⟨_, w.heap.size + 1, rfl, by omega, bV, ow, bR2, by simp [firsts]⟩, e0⟩
  (fun x a' W => a' = { tmps := #[.pointer (some ⟨B, 0, none⟩), .int .u64 key, .pointer (some ⟨w.heap.size, 0, none⟩), undef, .slice none 0 0, .pointer (some ⟨w.heap.size + 1 + 1, 0, none⟩), .int .i64 x, .pointer (some ⟨B, 0, none⟩), .pointer (some ⟨B, 0, none⟩), .pointer (some ⟨B, 1, none⟩), .int .i64 n, .slice (some ⟨w.heap.size + 1, 0, none⟩) 0 n, .pointer (some ⟨B, 0, none⟩), .int .u64 key, .func (.func 69) #[] #[.pointer (some ⟨w.heap.size + 1 + 1 + 1, 0, none⟩), .pointer (some ⟨w.heap.size + 1 + 1 + 1 + 1, 0, none⟩)], .int .i64 x, undef, undef, undef, undef, undef, undef, undef, undef, undef, undef, undef, undef, undef, undef, undef, undef], defers := [] })
  (fun x a' _ X Y row hs hg hr => hs)
  ?assign ?body ?done ?stop
 case assign =>
  rintro l pre x W K ⟨hJ, hB1⟩ hK
  unfold encY
  gi_wp2
  exact hK _ _ (KeepsFrom.refl _ _) (KpX.refl _ _) ⟨hJ, hB1⟩ rfl
 case body =>
  rintro l pre x a' W hl ⟨r, hr⟩ ⟨⟨v, g, hv, hg, bV1, own1, bR1, hle⟩, hB1⟩ rfl hlt
  have cV := bV1.cell
  have fV := bV1.frozen
  have cR := bR1.cell
  have cN : W.cell? ⟨B, 1, none⟩ = some (.int .i64 n) := (hB1.cell (p := ⟨B, 1, none⟩) hBl).trans cB1
  obtain ⟨a1, c1, rfl⟩ := own_shape own1
  have hI := own_ints own1 (by omega)
  have hadd : firsts (pre ++ [x]) = addF (firsts pre) x := firsts_snoc pre x
  obtain ⟨F, hF⟩ : ∃ F, firsts pre = F := ⟨_, rfl⟩
  rw [hF] at hI hadd hle own1 cV bV1 hv
  have hFm : (F.length : Int) ≤ 100000 := by omega
  have HI := hide hI
  have HADD := hide hadd
  have OWN := hide own1
  have HFF := hide hF
  clear hI hadd hF
  by_cases hx : x ∈ F
  ·have hd : decide (x ∈ F) = true := by simp [hx]
   have HD := hide hd
   have haf : addF F x = F := by rw [addF, if_pos hx]
   have HAF := hide haf
   clear hd haf hx
   have hle2 : F.length ≤ (pre ++ [x]).length := by simp; omega
   have hJ2 : RowJ w.heap.size B (pre ++ [x]) W := ⟨_, g, hv, hg, bV1, by rw [HADD.out, HAF.out]; exact OWN.out, bR1, by rw [HADD.out, HAF.out]; exact hle2⟩
   have HJ2 := hide hJ2
   clear hJ2
   by_cases hfull : F.length = n
   ·have hq : ((F.length : Int) == (n : Int)) = true := by simp [hfull]
    have HFU := hide hfull
    clear hfull
    gi_wp2_with (refine ⟨trivial, ?_⟩; gi_at_call 37; refine (CallsIn.inRound l (callsIn_wide.2 (contains_any HI.out x))).mono ?_; rintro e w' ⟨rfl, rfl⟩; rw [HD.out])
    refine wpIn_region_quiet_round rfl (by kernel_rfl) (by kernel_rfl) (by kernel_rfl) ?_
    repeat (gi_big_quiet_step (fail))
    refine wpQuietIn_nil ?_
    intro w6 hw6
    have g6 : W.grownBy w6 none := by
     obtain ⟨q6, rfl⟩ := hw6
     exact ⟨rfl, rfl, rfl, Nat.le_refl _, fun _ _ _ => rfl⟩
    clear hw6
    gi_wp2
    exact ⟨(KeepsOthers.of_grownBy g6 (fun _ _ e => by cases e)).from _, ⟨HJ2.out.kept g6 (fun r e => by cases e), hB1.grown g6 (hB1.size) (fun r e => by cases e)⟩, by rw [HADD.out, HAF.out]; exact HFU.out, rfl⟩
   ·have hq : ((F.length : Int) == (n : Int)) = false := by simp; omega
    clear hfull
    gi_wp2_with (refine ⟨trivial, ?_⟩; gi_at_call 37; refine (CallsIn.inRound l (callsIn_wide.2 (contains_any HI.out x))).mono ?_; rintro e w' ⟨rfl, rfl⟩; rw [HD.out])
    refine wpIn_region_quiet_round rfl (by kernel_rfl) (by kernel_rfl) (by kernel_rfl) ?_
    repeat (gi_big_quiet_step (fail))
    refine wpQuietIn_nil ?_
    intro w6 hw6
    have g6 : W.grownBy w6 none := by
     obtain ⟨q6, rfl⟩ := hw6
     exact ⟨rfl, rfl, rfl, Nat.le_refl _, fun _ _ _ => rfl⟩
    clear hw6
    gi_wp2
    exact ⟨(KeepsOthers.of_grownBy g6 (fun _ _ e => by cases e)).from _, KpX.grown _ g6 (fun r e => by cases e), HJ2.out.kept g6 (fun r e => by cases e), hB1.grown g6 (hB1.size) (fun r e => by cases e)⟩
  ·have hd : decide (x ∈ F) = false := by simp [hx]
   have HD := hide hd
   have haf : addF F x = F ++ [x] := by rw [addF, if_neg hx]
   have HAF := hide haf
   clear hd haf hx
   have hbs := hB1.size
   have hgo : g < W.heap.size := (OWN.out.lt g hv).2
   have bV2 := bV1.alloc (.cells #[.int .i64 x] 3)
   have bR3 := bR1.alloc (.cells #[.int .i64 x] 3)
   gi_wp2_with (first | (refine ⟨trivial, ?_⟩; gi_at_call 37; refine (CallsIn.inRound l (callsIn_wide.2 (contains_any HI.out x))).mono ?_; rintro e w' ⟨rfl, rfl⟩; rw [HD.out]) | (gi_at_builtin; go_loud (refine wpListIn_append_own_at _ (by rfl) _ _ 22 (by rfl) (w.heap.size + 1) 3 i0 (.int .i64 0) 1 8 Tryz.underlying22 hi hz0 hz1 hz2 rfl (by decide) (.slice a1 F.length c1) F.length (F.flatMap encI) (by rfl) (OWN.out.alloc _) ⟨W.heap.size, 0, none⟩ 1 1 [.int .i64 x] (by rfl) (by rfl) (cells_new W [.int .i64 x] 3) (by simp [Value.oneCell']) (by unfold maxLen; omega) (by omega) (by simp; omega) ?_); intro v2 w7 hown2 hgrow2 _ hat; obtain ⟨a2, c2, rfl⟩ := own_shape hown2; have bV3 := bV2.kept hgrow2 (row_ne hv (by omega)); have bR4 := bR3.kept hgrow2 (row_ne hv (by omega)); have cV3 := bV3.cell; have fV3 := bV3.frozen))
   have hWl : W0.heap.size < W.heap.size := Nat.lt_of_le_of_lt hl (Array.getElem?_eq_some_iff.1 hr).1
   have hb7 : Below w.heap.size w w7 := (hB1.alloc hbs _).grown hgrow2 (by simp; omega) (fun r e => by rw [hv] at e; cases e; omega)
   have hb8 := hb7.setCell (p := ⟨w.heap.size + 1 + 1, 0, none⟩) (by show _ ≤ w.heap.size + 1 + 1; omega) (.slice a2 (F.length + 1) c2)
   have bV8 := bV3.set (.slice a2 (F.length + 1) c2)
   have bR8 := box_other bR4 (B' := w.heap.size + 1 + 1) (by omega) (.slice a2 (F.length + 1) c2)
   have own8 := own_set8 hown2 bV3 (.slice a2 (F.length + 1) c2)
   have hg2 : ∃ g2, (Value.slice a2 (F.length + 1) c2).ownBlock = some g2 ∧ (w.heap.size < g2 ∧ g2 ≠ w.heap.size + 1 + 1 ∧ g2 ≠ w.heap.size + 1 + 1 + 1 ∧ g2 ≠ w.heap.size + 1 + 1 + 1 + 1) := by
    rcases hat with e | e
    ·exact ⟨g, by rw [e, hv], hg⟩
    ·exact ⟨_, e, by simp; omega⟩
   obtain ⟨g2, hv2, hgg2⟩ := hg2
   have k8 : KpX (fun k => w.heap.size < k ∧ k ≠ w.heap.size + 1 + 1 + 1 ∧ k ≠ w.heap.size + 1 + 1 + 1 + 1) W (w7.setCell ⟨w.heap.size + 1 + 1, 0, none⟩ (.slice a2 (F.length + 1) c2)) :=
    ((KpX.alloc _ W _).trans (KpX.grown _ hgrow2 (fun r e => by rw [hv] at e; cases e; exact ⟨hg.1, hg.2.2⟩))).trans (KpX.setCell _ _ _ _ (by omega))
   have kk8 : KeepsFrom W0.heap.size W (w7.setCell ⟨w.heap.size + 1 + 1, 0, none⟩ (.slice a2 (F.length + 1) c2)) :=
    ((KeepsOthers.alloc W _).trans ((KeepsOthers.of_grownBy hgrow2 (own_cells (OWN.out.alloc _))).trans (KeepsOthers.setCell _ _ _))).from _
   obtain ⟨w8, hw8⟩ : ∃ w8, w7.setCell ⟨w.heap.size + 1 + 1, 0, none⟩ (.slice a2 (F.length + 1) c2) = w8 := ⟨_, rfl⟩
   rw [hw8] at hb8 bV8 bR8 own8 k8 kk8 ⊢
   have hJ8 : RowJ w.heap.size B (pre ++ [x]) w8 := by
    refine ⟨.slice a2 (F.length + 1) c2, g2, hv2, hgg2, bV8, ?_, bR8, ?_⟩
    ·rw [HADD.out, HAF.out, List.length_append, List.flatMap_append]; exact own8
    ·rw [HADD.out, HAF.out]; simp; omega
   have HJ8 := hide hJ8
   have cV8 := bV8.cell
   have cR8 := bR8.cell
   have cN8 : w8.cell? ⟨B, 1, none⟩ = some (.int .i64 n) := (hb8.cell (p := ⟨B, 1, none⟩) hBl).trans cB1
   clear hJ8 hw8 bV3 bR4 cV3 fV3 hown2 hgrow2 hat own8 bV8 bR8 cV cR fV cN bV1 bR1 bV2 bR3
   by_cases hfull : F.length + 1 = n
   ·have hq : (((F.length : Int) + 1) == (n : Int)) = true := by simp; omega
    have HFU := hide hfull
    clear hfull
    refine wpIn_region_quiet_round rfl (by kernel_rfl) (by kernel_rfl) (by kernel_rfl) ?_
    repeat (gi_big_quiet_step (fail))
    refine wpQuietIn_nil ?_
    intro w6 hw6
    have g6 : w8.grownBy w6 none := by
     obtain ⟨q6, rfl⟩ := hw6
     exact ⟨rfl, rfl, rfl, Nat.le_refl _, fun _ _ _ => rfl⟩
    clear hw6
    gi_wp2
    exact ⟨kk8.trans ((KeepsOthers.of_grownBy g6 (fun _ _ e => by cases e)).from _), ⟨HJ8.out.kept g6 (fun r e => by cases e), hb8.grown g6 (hb8.size) (fun r e => by cases e)⟩, by rw [HADD.out, HAF.out, List.length_append]; exact HFU.out, rfl⟩
   ·have hq : (((F.length : Int) + 1) == (n : Int)) = false := by simp; omega
    clear hfull
    refine wpIn_region_quiet_round rfl (by kernel_rfl) (by kernel_rfl) (by kernel_rfl) ?_
    repeat (gi_big_quiet_step (fail))
    refine wpQuietIn_nil ?_
    intro w6 hw6
    have g6 : w8.grownBy w6 none := by
     obtain ⟨q6, rfl⟩ := hw6
     exact ⟨rfl, rfl, rfl, Nat.le_refl _, fun _ _ _ => rfl⟩
    clear hw6
    gi_wp2
    exact ⟨kk8.trans ((KeepsOthers.of_grownBy g6 (fun _ _ e => by cases e)).from _), k8.trans (KpX.grown _ g6 (fun r e => by cases e)), HJ8.out.kept g6 (fun r e => by cases e), hb8.grown g6 (hb8.size) (fun r e => by cases e)⟩
 case done =>
  rintro D ys W hD rfl ⟨⟨v, g, hv, hg, bV1, own1, bR1, hle⟩, hB1⟩ hK
  have cV := bV1.cell
  have OWN := hide own1
  obtain ⟨a1, c1, rfl⟩ := own_shape own1
  clear own1
  gi_wp2
  refine ⟨by simp, .inl ⟨_, _, rfl, run_takeDeferred hK, ?_⟩⟩
  have g1 : W.grownBy (W.putObj D (.deferred none)) (some D) := putObj_grown hK
  exact ⟨_, results_tmp rfl _ _ _, .slice a1 (firsts (idsK key P)).length c1, rfl, own_base (show w.heap.size ≤ w.heap.size + 1 by omega) (own_kept g1 (fun r e => by cases e; exact ⟨_, hK, rfl⟩) OWN.out), hB1.trans (belowK_b (w := w) (Nat.le_refl _) W D _ _ (by omega) hK rfl rfl)⟩
 case stop =>
  rintro D c pre W hD ⟨k, hk, rfl⟩ ⟨⟨⟨v, g, hv, hg, bV1, own1, bR1, hle⟩, hB1⟩, hfull, rfl⟩ hK
  have cV := bV1.cell
  have hfin : firsts ((idsK key P).take k) = rowOf key P := by
   have hall := pigeon (firsts ((idsK key P).take k)) E (firsts_nodup _) (fun x hx => hsub x (List.mem_of_mem_take ((firsts_mem _ _).1 hx))) (by omega)
   have := firsts_full ((idsK key P).take k) ((idsK key P).drop k) (fun x hx => hall x (hsub x (List.mem_of_mem_drop hx)))
   rw [List.take_append_drop] at this
   exact this.symm
  rw [hfin] at own1
  obtain ⟨a1, c1, rfl⟩ := own_shape own1
  have OWN := hide own1
  clear own1 hfin
  gi_wp2
  refine ⟨by simp, .inl ⟨_, _, rfl, run_takeDeferred hK, ?_⟩⟩
  have g1 : W.grownBy (W.putObj D (.deferred none)) (some D) := putObj_grown hK
  exact ⟨_, results_tmp rfl _ _ _, .slice a1 (rowOf key P).length c1, rfl, own_base (show w.heap.size ≤ w.heap.size + 1 by omega) (own_kept g1 (fun r e => by cases e; exact ⟨_, hK, rfl⟩) OWN.out), hB1.trans (belowK_b (w := w) (Nat.le_refl _) W D _ _ (by omega) hK rfl rfl)⟩
end Go.Proofs.YtofjcokclegkhaaGreatDoor.Rg

/- The ring's methods, over RingAt. -/
namespace Go.Proofs.YtofjcokclegkhaaGreatDoor.Rg
open Go.ChangeShapes Go.WideShapes Go.ChangeAt Go.RowKit Go.Sort Go.Shelf
theorem points_sorted (p : Nat) (ids : List Int) : (pointsOf p ids).Pairwise (fun x y => leP x y = true) := srtP_sorted _
theorem row_any {w : World} {r : Value} {p : Nat} {ids : List Int} (key : Int) (hp : 0 < p) (h : RingAt w r (ends ids).length (pointsOf p ids)) :
  Calls Tryz.prog 19 #[r, .int .u64 key] w fun e w' => ∃ v, e = .returned v ∧ w'.ownsRow w.heap.size 3 1 v (rowOf key (pointsOf p ids)).length ((rowOf key (pointsOf p ids)).flatMap encI) ∧ Ext w w' := by
 obtain ⟨h0, h00, B, a, cap, rfl, h2, h3⟩ := h
 refine callsIn_wide.1 (row_in key B _ a cap _ (ends ids) w h2 h3 (points_sorted p ids) h00 h0 rfl (fun x hx => ?_))
 rw [ends_mem, ← points_mem p hp ids x]
 simp only [idsK, List.mem_map, rotK_mem] at hx ⊢
 exact hx
/-- the same, read as a list -/
theorem row_ints {w : World} {r : Value} {p : Nat} {ids : List Int} (key : Int) (hp : 0 < p) (h : RingAt w r (ends ids).length (pointsOf p ids)) :
  Calls Tryz.prog 19 #[r, .int .u64 key] w fun e w' => ∃ v, e = .returned v ∧ Ints w' v (rowOf key (pointsOf p ids)) ∧ Ext w w' := by
 have h1 := h.1
 refine (row_any key hp h).mono ?_
 rintro e w' ⟨v, rfl, ho, he⟩
 exact ⟨v, rfl, own_ints ho (by rw [rowOf_length key p hp]; omega), he⟩
end Go.Proofs.YtofjcokclegkhaaGreatDoor.Rg
