/- Merged texts (WkSplitE, WkZone, WkZonb, WkZonc, WkLay, WkIds, WkKeys, WkKeyS, WkCons). -/
import Derived.Test.YtmpciohmljpncaaGreatDoorZs
import Derived.Test.YtmpciohmljpncaaGreatDoorZec
import Derived.Maps.AppendAt
import Derived.Shelf.SlIterI.Nil
import Derived.Shelf.SlIter.Nil
import Derived.Shelf.SortM.Plain
import Derived.Shelf.SortM.SortNone
import Derived.Shelf.Strings.OnBuilder
import Derived.Ground.GgzProg
import Derived.Ground.SlgmProg
import Derived.Ground.NamesProg
import Derived.Test.YtmpciohmljpncaaGreatDoorProg
import Derived.Lib.OwnBridge
set_option linter.unusedSectionVars false
set_option linter.unusedSimpArgs false
set_option linter.unusedVariables false
set_option linter.unnecessarySimpa false
set_option linter.deprecated false
namespace Go.Proofs.YtmpciohmljpncaaGreatDoor
open Go.RowKit Go.Ev Go.Proofs.YtmpciohmljpncaaGreatDoor.Sp
theorem sumW_eq : ∀ ps : List (Int × Int), sumW ps = sumI ps
 | [] => rfl
 | p :: r => by have := sumW_eq r; simp only [sumW, List.map_cons, List.sum_cons, sumI] at *; rw [this]
theorem pickR_eq : ∀ (ps : List (Int × Int)) (x : Int), pickR ps x = pickI ps x
 | [], _ => rfl
 | p :: r, x => by
  simp only [pickR, pickI, pickR_eq r]
  by_cases h : x < p.2 <;> simp [h]
theorem small_fits {ps : List (Int × Int)} (hs : SmallI ps) (hl : ps.length ≤ 1000) : SumFits ps := by
 have key : ∀ l : List (Int × Int), (∀ p ∈ l, 0 ≤ p.2 ∧ p.2 ≤ 1000000) → 0 ≤ sumI l ∧ sumI l ≤ 1000000 * l.length := by
  intro l
  induction l with
  | nil => intro _; simp [sumI]
  | cons p r ih =>
   intro h
   have h1 := h p (by simp)
   have h2 := ih (fun q hq => h q (by simp [hq]))
   simp only [sumI, List.length_cons]
   omega
 intro k hk
 have := key (ps.take k) (fun p hp => (hs p (List.mem_of_mem_take hp)).1)
 rw [sumW_eq]
 have hlen : (ps.take k).length ≤ 1000 := by simp; omega
 omega
theorem pairs_parts {w : World} {b o c : Nat} {ps : List (Int × Int)} (h : Pairs w b o ps) (hb : b < w.heap.size) (hc : ps.length ≤ c) (hcm : c ≤ 9223372036854775807) (hl : ps.length ≤ 1000) : Parts w (.slice (some ⟨b, o, none⟩) ps.length c) ps := by
 refine ⟨by omega, some ⟨b, o, none⟩, c, rfl, ⟨hc, hcm⟩, fun i x hi => ⟨b, o, rfl, hb, fun j u hj => ?_⟩⟩
 obtain ⟨h1, h2⟩ := h i x hi
 match j, hj with
 | 0, hj => simp [encP] at hj; subst hj; exact h1
 | 1, hj => simp [encP] at hj; subst hj; exact h2
 | j + 2, hj => simp [encP] at hj
theorem sumAt : SumAt Tryz.prog 320 := fun b o c ps w hp hb hc hcm hl hs => by
 have := sum_any ps _ w (pairs_parts hp hb hc hcm hl) (small_fits hs hl)
 rw [sumW_eq] at this
 exact this
theorem pickAt : PickAt Tryz.prog 244 := fun b o c ps d w hp hb hc hcm hl hs hd0 hd1 hs1 => by
 have := pick_any ps _ d w (pairs_parts hp hb hc hcm hl) (small_fits hs hl) (by unfold U64; omega)
 rw [pick, if_neg (by rw [sumW_eq]; omega), sumW_eq, pickR_eq] at this
 exact this
end Go.Proofs.YtmpciohmljpncaaGreatDoor
namespace Go.Proofs.YtmpciohmljpncaaGreatDoor
open Go.RowKit Go.Shelf Go.Ev Go.Proofs.YtmpciohmljpncaaGreatDoor.Sp
attribute [local go_sem] Oper.semAt_some
set_option maxRecDepth 100000 in
set_option maxHeartbeats 2000000 in
theorem each_round (n : Nat) (hn : 1 ≤ n) (l b1 o1 b2 o2 B0 : Nat) (c0 c1 c2 : Int) (b : Bool) (J Jx : List Unit → World → Prop) (W : World) (hB0 : B0 < W.heap.size) (hJ : AbidesFrom W.heap.size J)
  (hE : EachAt Tryz.prog W ⟨b1, o1, none⟩ ⟨b2, o2, none⟩ c0 c1 c2 b)
  (hY : ∀ pre x W1, J pre W1 → pre.length < 1 → YieldAt Fence.wide (n - 1) Tryz.prog l #[.agg #[.int .i64 c0, .int .i64 c1, .int .i64 c2]] W1 fun e W' =>
   (e = .returned (.bool true) ∧ J (pre ++ [x]) W' ∧ KpC B0 W1 W') ∨ (e = .returned (.bool false) ∧ Jx (pre ++ [x]) W'))
  (h0 : J [] W) :
  CallsIn Fence.wide n Tryz.prog 580 #[.func (.yield l) #[] #[], .pointer (some ⟨b1, o1, none⟩), .pointer (some ⟨b2, o2, none⟩)] W fun e W' => (∃ v, e = .returned v) ∧
   ((∃ ys, ys = (cond b [()] []) ∧ J ys W') ∨ (∃ pre, (pre = [()] ∧ b = true) ∧ Jx pre W')) := by
 obtain ⟨lt1, lt2, ⟨v, hv, bk, o, cap, rfl, hcap, hcm, hbk, hcells⟩, fa, fi, ca, hask, hen, hcall⟩ := hE
 have k0 : W.cell? ⟨bk, o, none⟩ = some (.int .i64 c0) := by have := hcells 0 _ rfl; simpa using this
 have hen' : ∀ (args : Array Value) (w : World), (callFunc fa args).run Tryz.prog w = .ok (.enter fa args) w := hen
 have k1 := hcells 1 _ rfl
 have k2 := hcells 2 _ rfl
 have HC := hide hcells; clear hcells
 have hcall' : ∀ w1, Below W.heap.size W w1 → Calls Tryz.prog fa (fi.push (.agg #[.int .i64 c0, .int .i64 c1, .int .i64 c2]) ++ ca) w1 fun e w2 => e = .returned (.bool b) ∧ Below w1.heap.size w1 w2 := by
  intro w1 hw1
  have := hcall w1 hw1
  simpa using this
 have HCALL := hide hcall'; clear hcall hcall'
 refine callsIn_of_wp Tryz.func580 rfl trivial ?_ rfl
 simp only [Tryz.ntmps580, List.size_toArray, List.length_cons, List.length_nil, Nat.reduceAdd, Nat.reduceSub, Array.replicate_succ, Array.replicate_zero, List.push_toArray, List.append_toArray, List.nil_append, List.cons_append]
 gi_wp2
 gi_loopw [8] (fun i wr => (i = .int .i64 0 ∧ wr = W) ∨ (i = .int .i64 1 ∧ J (cond b [()] []) wr)) (fun i _ => 1 - (intOf i).toNat)
 case atStart => exact .inl ⟨rfl, rfl⟩
 case round =>
  rcases hrel with ⟨rfl, rfl⟩ | ⟨rfl, hJs⟩
  ·have HJ0 := hide h0; clear h0
   gi_wp2
   refine ⟨trivial, ?_⟩
   have hB1 : Below wr.heap.size wr (wr.alloc (.cells #[.int .i64 c0, .int .i64 c1, .int .i64 c2] 41)) := (Below.refl _ wr).alloc (Nat.le_refl _) _
   refine (callsIn_wide.2 (HCALL.out _ hB1)).mono ?_
   rintro e w2 ⟨rfl, hb2⟩
   have hsz : wr.heap.size + 1 ≤ w2.heap.size := by have := hb2.size; simpa using this
   have hbox : ∀ i u, (#[Value.int .i64 c0, .int .i64 c1, .int .i64 c2])[i]? = some u → w2.cell? ⟨wr.heap.size, i, none⟩ = some u := by
    intro i u hi
    rw [hb2.cell (p := ⟨wr.heap.size, i, none⟩) (by simp)]
    simpa using hi
   have x0 := hbox 0 _ rfl
   have x1 := hbox 1 _ rfl
   have x2 := hbox 2 _ rfl
   have hB2 : Below wr.heap.size wr w2 := below_trans hB1 hb2
   have hJ2 : J [] w2 := hJ [] wr w2 none HJ0.out ⟨hB2.os, hB2.tape, hB2.output, hB2.size, fun k hk _ => hB2.block k hk⟩ (fun r e => by cases e)
   cases b with
   | false =>
    gi_wp2
    refine ⟨fun _ h => (by cases h), ?_⟩
    gi_wp2
    go_roundw
    case rel => exact .inr ⟨by go_num, hJ2⟩
    case measure => simp [intOf]
   | true =>
    obtain ⟨fn, tmps, assign, body, hy, hR⟩ := hY [] () w2 hJ2 (by simp)
    gi_wp2
    refine hR.mono ?_
    rintro e W3 (⟨rfl, hJ3, hk3⟩ | ⟨rfl, hJx3⟩)
    ·gi_wp2
     go_roundw
     case rel => exact .inr ⟨by go_num, hJ3⟩
     case measure => simp [intOf]
    ·gi_wp2
     refine bodyPost_ret (results_none rfl _ _ _) rfl ?_
     exact ⟨⟨_, rfl⟩, .inr (by simpa using hJx3)⟩
  ·gi_wp2
   go_end0
   exact ⟨⟨_, rfl⟩, .inl ⟨_, rfl, hJs⟩⟩
end Go.Proofs.YtmpciohmljpncaaGreatDoor
namespace Go.Proofs.YtmpciohmljpncaaGreatDoor
open Go.RowKit Go.Shelf Go.Ev Go.Proofs.YtmpciohmljpncaaGreatDoor.Sp
attribute [local go_sem] Oper.semAt_some
theorem eachAt_ext {P : Program} {w W : World} {p p' : Addr} {c0 c1 c2 : Int} {b : Bool} (h : EachAt P w p p' c0 c1 c2 b) (e : Below w.heap.size w W) : EachAt P W p p' c0 c1 c2 b := by
 obtain ⟨lt1, lt2, ⟨v, hv, bk, o, cap, rfl, hcap, hcm, hbk, hcells⟩, fa, fi, ca, hask, hen, hcall⟩ := h
 refine ⟨Nat.lt_of_lt_of_le lt1 e.size, Nat.lt_of_lt_of_le lt2 e.size, ⟨_, (e.cell lt1).trans hv, bk, o, cap, rfl, hcap, hcm, Nat.lt_of_lt_of_le hbk e.size, fun i y hi => (e.cell (p := ⟨bk, o + i, none⟩) hbk).trans (hcells i y hi)⟩, fa, fi, ca, (e.cell lt2).trans hask, hen, fun w1 hw1 => hcall w1 ?_⟩
 exact below_trans e hw1
theorem each_stops (n : Nat) (hn : 1 ≤ n) (b1 o1 b2 o2 B0 : Nat) (c0 c1 c2 : Int) (b : Bool) (w : World) (hB0 : B0 < w.heap.size) (hE : EachAt Tryz.prog w ⟨b1, o1, none⟩ ⟨b2, o2, none⟩ c0 c1 c2 b) :
  SeqStopsK Fence.wide n Tryz.prog 580 #[.pointer (some ⟨b1, o1, none⟩), .pointer (some ⟨b2, o2, none⟩)] (fun _ : Unit => #[.agg #[.int .i64 c0, .int .i64 c1, .int .i64 c2]]) (KpC B0) (fun ys => ys = cond b [()] []) (fun pre => pre = [()] ∧ b = true) 1 w :=
 fun l J Jx W hW hJ _ hY h0 => each_round n hn l b1 o1 b2 o2 B0 c0 c1 c2 b J Jx W (Nat.lt_of_lt_of_le hB0 hW.size) hJ (eachAt_ext hE hW) hY h0
set_option maxRecDepth 100000 in
set_option maxHeartbeats 2000000 in
theorem count_in (w : World) (b1 o1 b2 o2 : Nat) (c0 c1 c2 : Int) (b : Bool) (hE : EachAt Tryz.prog w ⟨b1, o1, none⟩ ⟨b2, o2, none⟩ c0 c1 c2 b) :
  CallsIn Fence.wide 9 Tryz.prog 578 #[.func (.func 580) #[] #[.pointer (some ⟨b1, o1, none⟩), .pointer (some ⟨b2, o2, none⟩)]] w fun e w' => e = .returned (.int .i64 (cond b 1 0)) ∧ Below w.heap.size w w' := by
 have HE := hide hE; clear hE
 refine callsIn_of_wp_marks Tryz.func578 rfl trivial ?_ rfl
 simp only [Tryz.ntmps578, List.size_toArray, List.length_cons, List.length_nil, Nat.reduceAdd, Nat.reduceSub, Array.replicate_succ, Array.replicate_zero, List.push_toArray, List.append_toArray, List.nil_append, List.cons_append]
 gi_wp2
 have bS := Boxed.new w 3 (.int .i64 0)
 have hB0 : Below w.heap.size w (w.alloc (.cells #[.int .i64 0] 3)) := (Below.refl _ w).alloc (Nat.le_refl _) _
 have hsz : (w.alloc (.cells #[.int .i64 0] 3)).heap.size = w.heap.size + 1 := by simp
 obtain ⟨W0, hW0⟩ : ∃ W0, w.alloc (.cells #[.int .i64 0] 3) = W0 := ⟨_, rfl⟩
 rw [hW0] at bS hB0 hsz ⊢
 clear hW0
 refine wpIn_rangeFunc_ownH rfl (by decide) (gf := 580) (lb := #[.pointer (some ⟨b1, o1, none⟩), .pointer (some ⟨b2, o2, none⟩)]) rfl trivial (enters_of Tryz.func580 (by kernel_rfl) rfl)
  (each_stops _ (by decide) b1 o1 b2 o2 w.heap.size c0 c1 c2 b W0 (by omega) (eachAt_ext HE.out hB0))
  KpC.trans (fun W l o o' _ hl ho _ => KpC.putObj _ hl ho) (Below.refl _ _) (fun _ => rfl)
  (fun pre W => Boxed W w.heap.size 3 (.int .i64 pre.length) ∧ Below w.heap.size w W ∧ pre.length ≤ 1)
  (fun _ _ _ => False)
  (OwnFrom.and (Own.from (boxed_own _ _ _) _) (OwnFrom.and (ownFrom_below (Nat.le_refl _) (by omega)) (ownFrom_pure _ (fun pre : List Unit => pre.length ≤ 1))))
  (fun _ _ _ _ _ hs _ _ => hs)
  ⟨bS, hB0, by simp⟩
  (fun _ a' W => a' = { tmps := #[.func (.func 580) #[] #[.pointer (some ⟨b1, o1, none⟩), .pointer (some ⟨b2, o2, none⟩)], undef, .int .i64 0, .pointer (some ⟨w.heap.size, 0, none⟩), .func (.func 580) #[] #[.pointer (some ⟨b1, o1, none⟩), .pointer (some ⟨b2, o2, none⟩)], .agg #[.int .i64 c0, .int .i64 c1, .int .i64 c2], undef, undef, undef], defers := [] })
  (fun x a' _ X Y row hs hg hr => hs)
  ?assign ?body ?done ?stop
 case assign =>
  rintro l pre x W K ⟨bS1, hB1, hp⟩ hK
  gi_wp2
  exact hK _ _ ((KeepsOthers.refl _).from _) (KpC.refl _ _) ⟨bS1, hB1, hp⟩ (by simp)
 case body =>
  rintro l pre x a' W hl ⟨r, hr⟩ ⟨bS1, hB1, hp⟩ rfl hlt
  have cS := bS1.cell
  have fS := bS1.frozen
  gi_wp2
  exact ⟨(KeepsOthers.setCell _ _ _).from _, KpC.setCell _ _ _ _, by simpa using bS1.set _, hB1.setCell (p := ⟨w.heap.size, 0, none⟩) (Nat.le_refl _) _, by simp only [List.length_append, List.length_cons, List.length_nil]; omega⟩
 case done =>
  rintro D ys W hD rfl ⟨bS1, hB1, hp⟩ hK
  have cS := bS1.cell
  gi_wp2
  refine ⟨by simp, .inl ⟨_, _, rfl, run_takeDeferred hK, ?_⟩⟩
  exact ⟨_, results_tmp rfl _ _ _, (by cases b <;> rfl), hB1.trans (belowK_b (w := w) (Nat.le_refl _) W D _ _ (by omega) hK rfl rfl)⟩
 case stop =>
  rintro D c pre W _ _ h _
  exact h.elim
theorem countAt : CountAt Tryz.prog 578 580 := fun w b1 o1 b2 o2 c0 c1 c2 b hE => callsIn_wide.1 (count_in w b1 o1 b2 o2 c0 c1 c2 b hE)
end Go.Proofs.YtmpciohmljpncaaGreatDoor
namespace Go.Proofs.YtmpciohmljpncaaGreatDoor
open Go.RowKit Go.Shelf Go.Ev Go.Proofs.YtmpciohmljpncaaGreatDoor.Sp
attribute [local go_sem] Oper.semAt_some
theorem infoI3 : (Tryz.prog.info? 3).map (fun i => (i.zero, i.size, i.bytes)) = some (some (.int .i64 0), 1, 8) := by kernel_rfl
set_option maxRecDepth 100000 in
set_option maxHeartbeats 2000000 in
theorem ids_in (w : World) (b1 o1 b2 o2 : Nat) (c0 c1 c2 : Int) (b : Bool) (hE : EachAt Tryz.prog w ⟨b1, o1, none⟩ ⟨b2, o2, none⟩ c0 c1 c2 b)
  (hsort : ∀ (base g cap : Nat) (x : Int) (W : World), W.ownsRow base 3 1 (.slice (some ⟨g, 0, none⟩) 1 cap) 1 [.int .i64 x] → Calls Tryz.prog 61 #[.slice (some ⟨g, 0, none⟩) 1 cap] W fun e w' => e = .returned (.tuple #[]) ∧
   w'.ownsRow base 3 1 (.slice (some ⟨g, 0, none⟩) 1 cap) 1 [.int .i64 x] ∧ w'.os = W.os ∧ w'.tape = W.tape ∧ w'.output = W.output ∧ W.heap.size ≤ w'.heap.size ∧ ∀ k, k < W.heap.size → k ≠ g → w'.heap[k]? = W.heap[k]?)
  (hsort0 : ∀ (W : World), Calls Tryz.prog 61 #[.slice none 0 0] W fun e w' => e = .returned (.tuple #[]) ∧ w' = W) :
  CallsIn Fence.wide 9 Tryz.prog 554 #[.func (.func 580) #[] #[.pointer (some ⟨b1, o1, none⟩), .pointer (some ⟨b2, o2, none⟩)]] w fun e w' => ∃ v, e = .returned v ∧ w'.ownsRow w.heap.size 3 1 v (cond b 1 0) (cond b [.int .i64 c0] []) ∧ (v = .slice none 0 0 ↔ (cond b 1 0) = 0) ∧ Below w.heap.size w w' := by
 have HE := hide hE; clear hE
 have HS := hide hsort; have HS0 := hide hsort0; clear hsort hsort0
 obtain ⟨i0, hi, hz0, hz1, hz2⟩ := info_parts infoI3
 refine callsIn_of_wp_marks Tryz.func554 rfl trivial ?_ rfl
 simp only [Tryz.ntmps554, List.size_toArray, List.length_cons, List.length_nil, Nat.reduceAdd, Nat.reduceSub, Array.replicate_succ, Array.replicate_zero, List.push_toArray, List.append_toArray, List.nil_append, List.cons_append]
 gi_wp2
 have bS := Boxed.new w 22 (.slice none 0 0)
 have hB0 : Below w.heap.size w (w.alloc (.cells #[.slice none 0 0] 22)) := (Below.refl _ w).alloc (Nat.le_refl _) _
 have hsz : (w.alloc (.cells #[.slice none 0 0] 22)).heap.size = w.heap.size + 1 := by simp
 obtain ⟨W0, hW0⟩ : ∃ W0, w.alloc (.cells #[.slice none 0 0] 22) = W0 := ⟨_, rfl⟩
 rw [hW0] at bS hB0 hsz ⊢
 clear hW0
 refine wpIn_rangeFunc_ownH rfl (by decide) (gf := 580) (lb := #[.pointer (some ⟨b1, o1, none⟩), .pointer (some ⟨b2, o2, none⟩)]) rfl trivial (enters_of Tryz.func580 (by kernel_rfl) rfl)
  (each_stops _ (by decide) b1 o1 b2 o2 w.heap.size c0 c1 c2 b W0 (by omega) (eachAt_ext HE.out hB0))
  KpC.trans (fun W l o o' _ hl ho _ => KpC.putObj _ hl ho) (Below.refl _ _) (fun _ => rfl)
  (fun pre W => (∃ v, Boxed W w.heap.size 22 v ∧ W.ownsRow w.heap.size 3 1 v pre.length (pre.map fun _ => Value.int .i64 c0) ∧ (v = .slice none 0 0 ↔ pre = [])) ∧ Below w.heap.size w W)
  (fun _ _ _ => False)
  (OwnFrom.and (Own.from (holdsRow_own w.heap.size w.heap.size 22 3 1 (fun pre : List Unit => pre.length) (fun pre => pre.map fun _ => Value.int .i64 c0) (fun pre v => v = .slice none 0 0 ↔ pre = [])) _) (ownFrom_below (Nat.le_refl _) (by omega)))
  (fun _ _ _ _ _ hs _ _ => hs)
  ⟨⟨_, bS, World.ownsRow_nil _ _ _ _, by simp⟩, hB0⟩
  (fun _ a' W => ∃ Bx, w.heap.size < Bx ∧ W.heap[Bx]? = some (.cells #[.int .i64 c0, .int .i64 c1, .int .i64 c2] 41 (0, 0)) ∧ a' = { tmps := #[.func (.func 580) #[] #[.pointer (some ⟨b1, o1, none⟩), .pointer (some ⟨b2, o2, none⟩)], undef, .slice none 0 0, .pointer (some ⟨w.heap.size, 0, none⟩), .pointer (some ⟨Bx, 0, none⟩), .func (.func 580) #[] #[.pointer (some ⟨b1, o1, none⟩), .pointer (some ⟨b2, o2, none⟩)], .agg #[.int .i64 c0, .int .i64 c1, .int .i64 c2], undef, undef, undef, undef, undef, undef, undef, undef], defers := [] })
  (fun x a' _ X Y row hs hg hr => by
   obtain ⟨Bx, h1, h2, h3⟩ := hs
   exact ⟨Bx, h1, cells_kept hg (fun r e => (hr r e).2) h2, h3⟩)
  ?assign ?body ?done ?stop
 case assign =>
  rintro l pre x W K ⟨⟨v, bS1, hrow, hn⟩, hB1⟩ hK
  have hsW := hB1.size
  gi_wp2
  refine hK _ _ ((KeepsOthers.alloc _ _).from _) (KpC.alloc _ _ _) ⟨⟨v, bS1.alloc _, hrow.alloc _, hn⟩, hB1.alloc hB1.size _⟩ ⟨W.heap.size, bS1.lt, ?_, rfl⟩
  exact World.alloc_heap_new W _
 case body =>
  rintro l pre x a' W hl ⟨r, hr⟩ ⟨⟨v, bS1, hrow, hn⟩, hB1⟩ ⟨Bx, hBx, bX, rfl⟩ hlt
  obtain rfl : pre = [] := List.eq_nil_of_length_eq_zero (by omega)
  obtain rfl := hn.2 rfl
  have cS := bS1.cell
  have fS := bS1.frozen
  have cX : W.cell? ⟨Bx, 0, none⟩ = some (.int .i64 c0) := by simp [World.cell?, bX]
  gi_wp2_with (gi_at_builtin; refine wpListIn_append_own _ rfl _ _ 22 rfl w.heap.size 3 i0 (.int .i64 0) 1 8 Tryz.underlying22 hi hz0 hz1 hz2 rfl (by decide) _ _ _ rfl (hrow.alloc _) ⟨W.heap.size, 0, none⟩ 1 1 [.int .i64 c0] rfl rfl (cell_one_new _ _ _) (by simp [Value.oneCell']) (by unfold maxLen; simp) (by simp) (by have := hB1.size; simp; omega) ?_; intro v' w1 hown' hgrow _; obtain ⟨g', cap', rfl⟩ := ownsRow_succ hown'; obtain ⟨hv1, hv2, hr2, hk2, hb2⟩ := bS1.appended (by decide) hrow hB1.size (Nat.le_refl _) hown' hgrow; have hc1 := hv1.cell; have hf1 := hv1.frozen)
  refine ⟨hk2.from _, ?_, ⟨_, hv2, ?_, by simp⟩, hB1.trans hb2⟩
  ·refine (KpC.alloc _ W _).trans (KpC.trans (B := w1) ⟨hgrow.size, fun k c t f h _ => (hgrow.block k (Array.getElem?_eq_some_iff.1 h).1 (show some k ≠ (none : Option Nat) by simp)).trans h⟩ (KpC.setCell _ _ _ _))
  ·simpa using hr2
 case done =>
  rintro D ys W hD rfl ⟨⟨v, bS1, hrow, hn⟩, hB1⟩ hK
  have cS := bS1.cell
  cases b with
  | false =>
   obtain rfl := hn.2 rfl
   clear hn hrow
   gi_wp2_with (refine ⟨trivial, ?_⟩; gi_at_call 61; refine (callsIn_wide.2 (HS0.out _)).mono ?_; rintro e w' ⟨rfl, rfl⟩)
   refine ⟨by simp, .inl ⟨_, _, rfl, run_takeDeferred hK, ?_⟩⟩
   exact ⟨_, results_tmp rfl _ _ _, _, rfl, World.ownsRow_nil _ _ _ _, by simp, hB1.trans (belowK_b (w := w) (Nat.le_refl _) _ D _ _ (by omega) hK rfl rfl)⟩
  | true =>
   have hrow : W.ownsRow w.heap.size 3 1 v (0 + 1) [.int .i64 c0] := hrow
   obtain ⟨g, cap, rfl⟩ := ownsRow_succ hrow
   have hat : w.heap.size ≤ g ∧ g ≠ w.heap.size ∧ g ≠ D := by
    rcases hrow.2 with ⟨h, _⟩ | ⟨g', cap', cur, e, hb, hg, h1, h2, h3, h4⟩
    ·cases h
    ·injection e with e1 _ _
     injection e1 with e1
     injection e1 with e1 _ _
     subst e1
     refine ⟨hb, fun e => ?_, fun e => ?_⟩
     ·subst e
      have := bS1.symm.trans hg
      simp at this
     ·subst e
      rw [hg] at hK; simp at hK
   obtain ⟨hg1, hg2, hg3⟩ := hat
   have hDl : D < W.heap.size := (Array.getElem?_eq_some_iff.1 hK).1
   have hcall := HS.out _ _ _ _ _ hrow
   have HROW := hide hrow
   have HBX := hide bS1
   clear hn hrow
   gi_wp2_with (refine ⟨trivial, ?_⟩; gi_at_call 61; refine (callsIn_wide.2 hcall).mono ?_; rintro e w7 ⟨rfl, hr7, h7a, h7b, h7c, h7d, h7e⟩; have cS7 : w7.cell? ⟨w.heap.size, 0, none⟩ = some (.slice (some ⟨g, 0, none⟩) (0 + 1) cap) := (World.cell?_of_block (a := ⟨w.heap.size, 0, none⟩) (h7e _ HBX.out.lt (fun e => hg2 e.symm))).trans cS)
   have hK7 : w7.heap[D]? = some (.deferred (some [])) := (h7e D hDl (fun e => hg3 e.symm)).trans hK
   have hB7 : Below w.heap.size w w7 := ⟨h7a.trans hB1.os, h7b.trans hB1.tape, h7c.trans hB1.output, Nat.le_trans hB1.size h7d, fun k hk => (h7e k (Nat.lt_of_lt_of_le hk hB1.size) (by omega)).trans (hB1.block k hk)⟩
   refine ⟨by simp, .inl ⟨_, _, rfl, run_takeDeferred hK7, ?_⟩⟩
   refine ⟨_, results_tmp rfl _ _ _, _, rfl, ?_, by simp, hB7.trans (belowK_b (w := w) (Nat.le_refl _) w7 D _ _ (by omega) hK7 rfl rfl)⟩
   exact ownsRow_putObj hr7 _ hK7 rfl
 case stop =>
  rintro D c pre W _ _ h _
  exact h.elim
end Go.Proofs.YtmpciohmljpncaaGreatDoor
namespace Go.Proofs
open Go.RowKit Go.Maps Go.Sort Go.Shelf Go.Proofs.YtmpciohmljpncaaGreatDoor.Sp
def Tryz.sortedI_ren : Go.Shelf.Ren := ⟨fun | 6 => 192 | 8 => 289 | 9 => 61 | 11 => 362 | 13 => 132 | 12 => 131 | 23 => 217 | 24 => 136 | 14 => 208 | 15 => 209 | 16 => 210 | 17 => 211 | 18 => 212 | 19 => 213 | 20 => 214 | 21 => 215 | 22 => 216 | 25 => 309 | 26 => 310 | 27 => 311 | 28 => 312 | 29 => 313 | 30 => 184 | 31 => 390 | n => n, fun | 26 => 3 | 28 => 378 | 24 => 22 | 0 => 0 | 3 => 3 | 37 => 173 | 48 => 416 | 50 => 80 | 4 => 4 | 40 => 409 | 39 => 408 | 45 => 401 | 5 => 5 | 9 => 9 | 51 => 508 | 55 => 512 | 57 => 593 | 58 => 84 | 33 => 250 | n => n, fun | n => n⟩
theorem Tryz.sortedI : Go.Proofs.SlLaysZI.n6 Tryz.prog Tryz.sortedI_ren := {
  mixed := by kernel_rfl
  f6 := ⟨Tryz.f192.name, by decide, Tryz.func192.trans (congrArg some (by kernel_rfl))⟩
  f8 := ⟨Tryz.f289.name, by decide, Tryz.func289.trans (congrArg some (by kernel_rfl))⟩
  f11 := ⟨Tryz.f362.name, by decide, Tryz.func362.trans (congrArg some (by kernel_rfl))⟩
  t0 := Tryz.underlying0
  a0 := Tryz.isAgg0
  z0 := Tryz.sizeOf0
  v0 := Tryz.zeroValue0
  t24 := Tryz.underlying22
  a24 := Tryz.isAgg22
  z24 := Tryz.sizeOf22
  v24 := Tryz.zeroValue22
  t26 := Tryz.underlying3
  a26 := Tryz.isAgg3
  z26 := Tryz.sizeOf3
  v26 := Tryz.zeroValue3
  t28 := Tryz.underlying378
  a28 := Tryz.isAgg378
  z28 := Tryz.sizeOf378
  v28 := Tryz.zeroValue378
  i26 := by kernel_rfl }
def Tryz.sortI_ren : Go.Shelf.Ren := ⟨fun | 5 => 61 | 8 => 132 | 7 => 131 | 19 => 217 | 20 => 136 | 10 => 208 | 11 => 209 | 12 => 210 | 13 => 211 | 14 => 212 | 15 => 213 | 16 => 214 | 17 => 215 | 18 => 216 | 30 => 309 | 31 => 310 | 32 => 311 | 33 => 312 | 34 => 313 | 35 => 184 | 40 => 390 | n => n, fun | 23 => 22 | 25 => 3 | 3 => 3 | 32 => 173 | 22 => 22 | 0 => 0 | 44 => 416 | 46 => 80 | 4 => 4 | 36 => 409 | 35 => 408 | 41 => 401 | 5 => 5 | 9 => 9 | 53 => 508 | 57 => 512 | 63 => 593 | 64 => 84 | n => n, fun | n => n⟩
theorem Tryz.sortI : Go.Proofs.SlLaysM.n5 Tryz.prog Tryz.sortI_ren := {
  mixed := by kernel_rfl
  f5 := ⟨Tryz.f61.name, by decide, Tryz.func61.trans (congrArg some (by kernel_rfl))⟩
  f7 := ⟨Tryz.f131.name, by decide, Tryz.func131.trans (congrArg some (by kernel_rfl))⟩
  f8 := Tryz.func132.trans (congrArg some (by kernel_rfl))
  f10 := ⟨Tryz.f208.name, by decide, Tryz.func208.trans (congrArg some (by kernel_rfl))⟩
  f11 := ⟨Tryz.f209.name, by decide, Tryz.func209.trans (congrArg some (by kernel_rfl))⟩
  f12 := ⟨Tryz.f210.name, by decide, Tryz.func210.trans (congrArg some (by kernel_rfl))⟩
  f13 := ⟨Tryz.f211.name, by decide, Tryz.func211.trans (congrArg some (by kernel_rfl))⟩
  f14 := ⟨Tryz.f212.name, by decide, Tryz.func212.trans (congrArg some (by kernel_rfl))⟩
  f15 := ⟨Tryz.f213.name, by decide, Tryz.func213.trans (congrArg some (by kernel_rfl))⟩
  f16 := ⟨Tryz.f214.name, by decide, Tryz.func214.trans (congrArg some (by kernel_rfl))⟩
  f17 := ⟨Tryz.f215.name, by decide, Tryz.func215.trans (congrArg some (by kernel_rfl))⟩
  f18 := ⟨Tryz.f216.name, by decide, Tryz.func216.trans (congrArg some (by kernel_rfl))⟩
  f19 := Tryz.func217.trans (congrArg some (by kernel_rfl))
  f20 := Tryz.func136.trans (congrArg some (by kernel_rfl))
  f30 := ⟨Tryz.f309.name, by decide, Tryz.func309.trans (congrArg some (by kernel_rfl))⟩
  f31 := Tryz.func310.trans (congrArg some (by kernel_rfl))
  f32 := Tryz.func311.trans (congrArg some (by kernel_rfl))
  f33 := ⟨Tryz.f312.name, by decide, Tryz.func312.trans (congrArg some (by kernel_rfl))⟩
  f34 := ⟨Tryz.f313.name, by decide, Tryz.func313.trans (congrArg some (by kernel_rfl))⟩
  f35 := ⟨Tryz.f184.name, by decide, Tryz.func184.trans (congrArg some (by kernel_rfl))⟩
  f40 := ⟨Tryz.f390.name, by decide, Tryz.func390.trans (congrArg some (by kernel_rfl))⟩
  t0 := Tryz.underlying0
  a0 := Tryz.isAgg0
  z0 := Tryz.sizeOf0
  v0 := Tryz.zeroValue0
  t3 := Tryz.underlying3
  a3 := Tryz.isAgg3
  z3 := Tryz.sizeOf3
  v3 := Tryz.zeroValue3
  t4 := Tryz.underlying4
  a4 := Tryz.isAgg4
  z4 := Tryz.sizeOf4
  v4 := Tryz.zeroValue4
  t5 := Tryz.underlying5
  a5 := Tryz.isAgg5
  z5 := Tryz.sizeOf5
  v5 := Tryz.zeroValue5
  t9 := Tryz.underlying9
  a9 := Tryz.isAgg9
  z9 := Tryz.sizeOf9
  v9 := Tryz.zeroValue9
  t22 := Tryz.underlying22
  a22 := Tryz.isAgg22
  z22 := Tryz.sizeOf22
  v22 := Tryz.zeroValue22
  t23 := Tryz.underlying22
  a23 := Tryz.isAgg22
  z23 := Tryz.sizeOf22
  v23 := Tryz.zeroValue22
  t25 := Tryz.underlying3
  a25 := Tryz.isAgg3
  z25 := Tryz.sizeOf3
  v25 := Tryz.zeroValue3
  t32 := Tryz.underlying173
  a32 := Tryz.isAgg173
  z32 := Tryz.sizeOf173
  v32 := Tryz.zeroValue173
  t35 := Tryz.underlying408
  a35 := Tryz.isAgg408
  z35 := Tryz.sizeOf408
  v35 := Tryz.zeroValue408
  t36 := Tryz.underlying409
  a36 := Tryz.isAgg409
  z36 := Tryz.sizeOf409
  v36 := Tryz.zeroValue409
  t41 := Tryz.underlying401
  a41 := Tryz.isAgg401
  z41 := Tryz.sizeOf401
  v41 := Tryz.zeroValue401
  t44 := Tryz.underlying416
  a44 := Tryz.isAgg416
  z44 := Tryz.sizeOf416
  v44 := Tryz.zeroValue416
  t46 := Tryz.underlying80
  a46 := Tryz.isAgg80
  z46 := Tryz.sizeOf80
  v46 := Tryz.zeroValue80
  t53 := Tryz.underlying508
  a53 := Tryz.isAgg508
  z53 := Tryz.sizeOf508
  v53 := Tryz.zeroValue508
  t57 := Tryz.underlying512
  a57 := Tryz.isAgg512
  z57 := Tryz.sizeOf512
  v57 := Tryz.zeroValue512
  t63 := Tryz.underlying593
  a63 := Tryz.isAgg593
  z63 := Tryz.sizeOf593
  v63 := Tryz.zeroValue593
  t64 := Tryz.underlying84
  a64 := Tryz.isAgg84
  z64 := Tryz.sizeOf84
  v64 := Tryz.zeroValue84 }
def Tryz.keys290_ren : Go.Shelf.Ren := ⟨fun | 10 => 290 | n => n, fun | 33 => 250 | 23 => 252 | 0 => 0 | 4 => 4 | 26 => 3 | 3 => 380 | n => n, fun | n => n⟩
theorem Tryz.keys290 : Go.Proofs.SlLaysZI.n10 Tryz.prog Tryz.keys290_ren := {
  mixed := by kernel_rfl
  f10 := ⟨Tryz.f290.name, by decide, Tryz.func290.trans (congrArg some (by kernel_rfl))⟩
  t0 := Tryz.underlying0
  a0 := Tryz.isAgg0
  z0 := Tryz.sizeOf0
  v0 := Tryz.zeroValue0
  t4 := Tryz.underlying4
  a4 := Tryz.isAgg4
  z4 := Tryz.sizeOf4
  v4 := Tryz.zeroValue4
  t23 := Tryz.underlying252
  a23 := Tryz.isAgg252
  z23 := Tryz.sizeOf252
  v23 := Tryz.zeroValue252
  t26 := Tryz.underlying3
  a26 := Tryz.isAgg3
  z26 := Tryz.sizeOf3
  v26 := Tryz.zeroValue3
  t33 := Tryz.underlying250
  a33 := Tryz.isAgg250
  z33 := Tryz.sizeOf250
  v33 := Tryz.zeroValue250 }
def Tryz.keys301_ren : Go.Shelf.Ren := ⟨fun | 10 => 301 | n => n, fun | 33 => 250 | 23 => 117 | 0 => 0 | 4 => 4 | 26 => 3 | 3 => 160 | n => n, fun | n => n⟩
theorem Tryz.keys301 : Go.Proofs.SlLaysZI.n10 Tryz.prog Tryz.keys301_ren := {
  mixed := by kernel_rfl
  f10 := ⟨Tryz.f301.name, by decide, Tryz.func301.trans (congrArg some (by kernel_rfl))⟩
  t0 := Tryz.underlying0
  a0 := Tryz.isAgg0
  z0 := Tryz.sizeOf0
  v0 := Tryz.zeroValue0
  t4 := Tryz.underlying4
  a4 := Tryz.isAgg4
  z4 := Tryz.sizeOf4
  v4 := Tryz.zeroValue4
  t23 := Tryz.underlying117
  a23 := Tryz.isAgg117
  z23 := Tryz.sizeOf117
  v23 := Tryz.zeroValue117
  t26 := Tryz.underlying3
  a26 := Tryz.isAgg3
  z26 := Tryz.sizeOf3
  v26 := Tryz.zeroValue3
  t33 := Tryz.underlying250
  a33 := Tryz.isAgg250
  z33 := Tryz.sizeOf250
  v33 := Tryz.zeroValue250 }
def Tryz.keys361_ren : Go.Shelf.Ren := ⟨fun | 10 => 361 | n => n, fun | 33 => 250 | 23 => 221 | 0 => 0 | 4 => 4 | 26 => 3 | 3 => 251 | n => n, fun | n => n⟩
theorem Tryz.keys361 : Go.Proofs.SlLaysZI.n10 Tryz.prog Tryz.keys361_ren := {
  mixed := by kernel_rfl
  f10 := ⟨Tryz.f361.name, by decide, Tryz.func361.trans (congrArg some (by kernel_rfl))⟩
  t0 := Tryz.underlying0
  a0 := Tryz.isAgg0
  z0 := Tryz.sizeOf0
  v0 := Tryz.zeroValue0
  t4 := Tryz.underlying4
  a4 := Tryz.isAgg4
  z4 := Tryz.sizeOf4
  v4 := Tryz.zeroValue4
  t23 := Tryz.underlying221
  a23 := Tryz.isAgg221
  z23 := Tryz.sizeOf221
  v23 := Tryz.zeroValue221
  t26 := Tryz.underlying3
  a26 := Tryz.isAgg3
  z26 := Tryz.sizeOf3
  v26 := Tryz.zeroValue3
  t33 := Tryz.underlying250
  a33 := Tryz.isAgg250
  z33 := Tryz.sizeOf250
  v33 := Tryz.zeroValue250 }
def Tryz.keys499_ren : Go.Shelf.Ren := ⟨fun | 10 => 499 | n => n, fun | 33 => 250 | 23 => 498 | 0 => 0 | 4 => 4 | 26 => 3 | 3 => 580 | n => n, fun | n => n⟩
theorem Tryz.keys499 : Go.Proofs.SlLaysZI.n10 Tryz.prog Tryz.keys499_ren := {
  mixed := by kernel_rfl
  f10 := ⟨Tryz.f499.name, by decide, Tryz.func499.trans (congrArg some (by kernel_rfl))⟩
  t0 := Tryz.underlying0
  a0 := Tryz.isAgg0
  z0 := Tryz.sizeOf0
  v0 := Tryz.zeroValue0
  t4 := Tryz.underlying4
  a4 := Tryz.isAgg4
  z4 := Tryz.sizeOf4
  v4 := Tryz.zeroValue4
  t23 := Tryz.underlying498
  a23 := Tryz.isAgg498
  z23 := Tryz.sizeOf498
  v23 := Tryz.zeroValue498
  t26 := Tryz.underlying3
  a26 := Tryz.isAgg3
  z26 := Tryz.sizeOf3
  v26 := Tryz.zeroValue3
  t33 := Tryz.underlying250
  a33 := Tryz.isAgg250
  z33 := Tryz.sizeOf250
  v33 := Tryz.zeroValue250 }
def Tryz.keys562_ren : Go.Shelf.Ren := ⟨fun | 10 => 562 | n => n, fun | 33 => 250 | 23 => 61 | 0 => 0 | 4 => 4 | 26 => 3 | 3 => 3 | n => n, fun | n => n⟩
theorem Tryz.keys562 : Go.Proofs.SlLaysZI.n10 Tryz.prog Tryz.keys562_ren := {
  mixed := by kernel_rfl
  f10 := ⟨Tryz.f562.name, by decide, Tryz.func562.trans (congrArg some (by kernel_rfl))⟩
  t0 := Tryz.underlying0
  a0 := Tryz.isAgg0
  z0 := Tryz.sizeOf0
  v0 := Tryz.zeroValue0
  t4 := Tryz.underlying4
  a4 := Tryz.isAgg4
  z4 := Tryz.sizeOf4
  v4 := Tryz.zeroValue4
  t23 := Tryz.underlying61
  a23 := Tryz.isAgg61
  z23 := Tryz.sizeOf61
  v23 := Tryz.zeroValue61
  t26 := Tryz.underlying3
  a26 := Tryz.isAgg3
  z26 := Tryz.sizeOf3
  v26 := Tryz.zeroValue3
  t33 := Tryz.underlying250
  a33 := Tryz.isAgg250
  z33 := Tryz.sizeOf250
  v33 := Tryz.zeroValue250 }
def Tryz.sortedS_ren : Go.Shelf.Ren := ⟨fun | 6 => 129 | 8 => 205 | 9 => 206 | 11 => 307 | 13 => 132 | 12 => 308 | 23 => 217 | 24 => 136 | 14 => 381 | 15 => 382 | 16 => 383 | 17 => 384 | 18 => 385 | 19 => 386 | 20 => 387 | 21 => 388 | 22 => 389 | 25 => 454 | 26 => 310 | 27 => 311 | 28 => 455 | 29 => 456 | 30 => 457 | 31 => 508 | n => n, fun | 26 => 9 | 28 => 277 | 24 => 33 | 0 => 0 | 3 => 3 | 37 => 173 | 48 => 416 | 50 => 80 | 4 => 4 | 40 => 409 | 39 => 408 | 45 => 401 | 5 => 5 | 9 => 9 | 51 => 508 | 55 => 512 | 57 => 593 | 58 => 84 | 33 => 294 | n => n, fun | n => n⟩
theorem Tryz.sortedS : Go.Proofs.SlLaysZ.n6 Tryz.prog Tryz.sortedS_ren := {
  mixed := by kernel_rfl
  f6 := ⟨Tryz.f129.name, by decide, Tryz.func129.trans (congrArg some (by kernel_rfl))⟩
  f8 := ⟨Tryz.f205.name, by decide, Tryz.func205.trans (congrArg some (by kernel_rfl))⟩
  f11 := ⟨Tryz.f307.name, by decide, Tryz.func307.trans (congrArg some (by kernel_rfl))⟩
  t0 := Tryz.underlying0
  a0 := Tryz.isAgg0
  z0 := Tryz.sizeOf0
  v0 := Tryz.zeroValue0
  t24 := Tryz.underlying33
  a24 := Tryz.isAgg33
  z24 := Tryz.sizeOf33
  v24 := Tryz.zeroValue33
  t26 := Tryz.underlying9
  a26 := Tryz.isAgg9
  z26 := Tryz.sizeOf9
  v26 := Tryz.zeroValue9
  t28 := Tryz.underlying277
  a28 := Tryz.isAgg277
  z28 := Tryz.sizeOf277
  v28 := Tryz.zeroValue277
  i26 := by kernel_rfl }
def Tryz.sortS_ren : Go.Shelf.Ren := ⟨fun | 6 => 206 | 8 => 132 | 9 => 308 | 19 => 217 | 20 => 136 | 21 => 381 | 22 => 382 | 23 => 383 | 24 => 384 | 25 => 385 | 26 => 386 | 27 => 387 | 28 => 388 | 29 => 389 | 36 => 454 | 31 => 310 | 32 => 311 | 37 => 455 | 38 => 456 | 39 => 457 | 41 => 508 | n => n, fun | 27 => 33 | 29 => 9 | 3 => 3 | 32 => 173 | 26 => 33 | 0 => 0 | 44 => 416 | 46 => 80 | 4 => 4 | 36 => 409 | 35 => 408 | 41 => 401 | 5 => 5 | 9 => 9 | 53 => 508 | 57 => 512 | 63 => 593 | 64 => 84 | n => n, fun | n => n⟩
theorem Tryz.sortS : Go.Proofs.SlLaysM.n6 Tryz.prog Tryz.sortS_ren := {
  mixed := by kernel_rfl
  f6 := ⟨Tryz.f206.name, by decide, Tryz.func206.trans (congrArg some (by kernel_rfl))⟩
  f8 := Tryz.func132.trans (congrArg some (by kernel_rfl))
  f9 := ⟨Tryz.f308.name, by decide, Tryz.func308.trans (congrArg some (by kernel_rfl))⟩
  f19 := Tryz.func217.trans (congrArg some (by kernel_rfl))
  f20 := Tryz.func136.trans (congrArg some (by kernel_rfl))
  f21 := ⟨Tryz.f381.name, by decide, Tryz.func381.trans (congrArg some (by kernel_rfl))⟩
  f22 := ⟨Tryz.f382.name, by decide, Tryz.func382.trans (congrArg some (by kernel_rfl))⟩
  f23 := ⟨Tryz.f383.name, by decide, Tryz.func383.trans (congrArg some (by kernel_rfl))⟩
  f24 := ⟨Tryz.f384.name, by decide, Tryz.func384.trans (congrArg some (by kernel_rfl))⟩
  f25 := ⟨Tryz.f385.name, by decide, Tryz.func385.trans (congrArg some (by kernel_rfl))⟩
  f26 := ⟨Tryz.f386.name, by decide, Tryz.func386.trans (congrArg some (by kernel_rfl))⟩
  f27 := ⟨Tryz.f387.name, by decide, Tryz.func387.trans (congrArg some (by kernel_rfl))⟩
  f28 := ⟨Tryz.f388.name, by decide, Tryz.func388.trans (congrArg some (by kernel_rfl))⟩
  f29 := ⟨Tryz.f389.name, by decide, Tryz.func389.trans (congrArg some (by kernel_rfl))⟩
  f31 := Tryz.func310.trans (congrArg some (by kernel_rfl))
  f32 := Tryz.func311.trans (congrArg some (by kernel_rfl))
  f36 := ⟨Tryz.f454.name, by decide, Tryz.func454.trans (congrArg some (by kernel_rfl))⟩
  f37 := ⟨Tryz.f455.name, by decide, Tryz.func455.trans (congrArg some (by kernel_rfl))⟩
  f38 := ⟨Tryz.f456.name, by decide, Tryz.func456.trans (congrArg some (by kernel_rfl))⟩
  f39 := ⟨Tryz.f457.name, by decide, Tryz.func457.trans (congrArg some (by kernel_rfl))⟩
  f41 := ⟨Tryz.f508.name, by decide, Tryz.func508.trans (congrArg some (by kernel_rfl))⟩
  t0 := Tryz.underlying0
  a0 := Tryz.isAgg0
  z0 := Tryz.sizeOf0
  v0 := Tryz.zeroValue0
  t3 := Tryz.underlying3
  a3 := Tryz.isAgg3
  z3 := Tryz.sizeOf3
  v3 := Tryz.zeroValue3
  t4 := Tryz.underlying4
  a4 := Tryz.isAgg4
  z4 := Tryz.sizeOf4
  v4 := Tryz.zeroValue4
  t5 := Tryz.underlying5
  a5 := Tryz.isAgg5
  z5 := Tryz.sizeOf5
  v5 := Tryz.zeroValue5
  t9 := Tryz.underlying9
  a9 := Tryz.isAgg9
  z9 := Tryz.sizeOf9
  v9 := Tryz.zeroValue9
  t26 := Tryz.underlying33
  a26 := Tryz.isAgg33
  z26 := Tryz.sizeOf33
  v26 := Tryz.zeroValue33
  t27 := Tryz.underlying33
  a27 := Tryz.isAgg33
  z27 := Tryz.sizeOf33
  v27 := Tryz.zeroValue33
  t29 := Tryz.underlying9
  a29 := Tryz.isAgg9
  z29 := Tryz.sizeOf9
  v29 := Tryz.zeroValue9
  t32 := Tryz.underlying173
  a32 := Tryz.isAgg173
  z32 := Tryz.sizeOf173
  v32 := Tryz.zeroValue173
  t35 := Tryz.underlying408
  a35 := Tryz.isAgg408
  z35 := Tryz.sizeOf408
  v35 := Tryz.zeroValue408
  t36 := Tryz.underlying409
  a36 := Tryz.isAgg409
  z36 := Tryz.sizeOf409
  v36 := Tryz.zeroValue409
  t41 := Tryz.underlying401
  a41 := Tryz.isAgg401
  z41 := Tryz.sizeOf401
  v41 := Tryz.zeroValue401
  t44 := Tryz.underlying416
  a44 := Tryz.isAgg416
  z44 := Tryz.sizeOf416
  v44 := Tryz.zeroValue416
  t46 := Tryz.underlying80
  a46 := Tryz.isAgg80
  z46 := Tryz.sizeOf80
  v46 := Tryz.zeroValue80
  t53 := Tryz.underlying508
  a53 := Tryz.isAgg508
  z53 := Tryz.sizeOf508
  v53 := Tryz.zeroValue508
  t57 := Tryz.underlying512
  a57 := Tryz.isAgg512
  z57 := Tryz.sizeOf512
  v57 := Tryz.zeroValue512
  t63 := Tryz.underlying593
  a63 := Tryz.isAgg593
  z63 := Tryz.sizeOf593
  v63 := Tryz.zeroValue593
  t64 := Tryz.underlying84
  a64 := Tryz.isAgg84
  z64 := Tryz.sizeOf84
  v64 := Tryz.zeroValue84 }
def Tryz.keys207_ren : Go.Shelf.Ren := ⟨fun | 10 => 207 | n => n, fun | 33 => 294 | 23 => 154 | 0 => 0 | 4 => 4 | 26 => 9 | 3 => 22 | n => n, fun | n => n⟩
theorem Tryz.keys207 : Go.Proofs.SlLaysZ.n10 Tryz.prog Tryz.keys207_ren := {
  mixed := by kernel_rfl
  f10 := ⟨Tryz.f207.name, by decide, Tryz.func207.trans (congrArg some (by kernel_rfl))⟩
  t0 := Tryz.underlying0
  a0 := Tryz.isAgg0
  z0 := Tryz.sizeOf0
  v0 := Tryz.zeroValue0
  t4 := Tryz.underlying4
  a4 := Tryz.isAgg4
  z4 := Tryz.sizeOf4
  v4 := Tryz.zeroValue4
  t23 := Tryz.underlying154
  a23 := Tryz.isAgg154
  z23 := Tryz.sizeOf154
  v23 := Tryz.zeroValue154
  t26 := Tryz.underlying9
  a26 := Tryz.isAgg9
  z26 := Tryz.sizeOf9
  v26 := Tryz.zeroValue9
  t33 := Tryz.underlying294
  a33 := Tryz.isAgg294
  z33 := Tryz.sizeOf294
  v33 := Tryz.zeroValue294 }
def Tryz.layJoin_ren : Go.Shelf.Ren := ⟨fun | 156 => 264 | 165 => 339 | 166 => 340 | 169 => 341 | 240 => 415 | 241 => 416 | 276 => 480 | 277 => 481 | n => n, fun | 31 => 33 | 9 => 9 | 3 => 3 | 4 => 4 | 0 => 0 | 20 => 20 | 72 => 547 | 76 => 535 | 70 => 544 | 37 => 545 | 75 => 175 | 127 => 611 | 164 => 651 | 5 => 5 | 80 => 548 | n => n, fun | n => n⟩
theorem Tryz.layJoin : Go.Proofs.Lays.n156 Tryz.prog Tryz.layJoin_ren := {
  mixed := by kernel_rfl
  f156 := Tryz.func264.trans (congrArg some (by kernel_rfl))
  f165 := Tryz.func339.trans (congrArg some (by kernel_rfl))
  f166 := Tryz.func340.trans (congrArg some (by kernel_rfl))
  f169 := Tryz.func341.trans (congrArg some (by kernel_rfl))
  f240 := Tryz.func415.trans (congrArg some (by kernel_rfl))
  f241 := Tryz.func416.trans (congrArg some (by kernel_rfl))
  f276 := Tryz.func480.trans (congrArg some (by kernel_rfl))
  f277 := Tryz.func481.trans (congrArg some (by kernel_rfl))
  t0 := Tryz.underlying0
  a0 := Tryz.isAgg0
  z0 := Tryz.sizeOf0
  v0 := Tryz.zeroValue0
  t3 := Tryz.underlying3
  a3 := Tryz.isAgg3
  z3 := Tryz.sizeOf3
  v3 := Tryz.zeroValue3
  t4 := Tryz.underlying4
  a4 := Tryz.isAgg4
  z4 := Tryz.sizeOf4
  v4 := Tryz.zeroValue4
  t9 := Tryz.underlying9
  a9 := Tryz.isAgg9
  z9 := Tryz.sizeOf9
  v9 := Tryz.zeroValue9
  t20 := Tryz.underlying20
  a20 := Tryz.isAgg20
  z20 := Tryz.sizeOf20
  v20 := Tryz.zeroValue20
  t31 := Tryz.underlying33
  a31 := Tryz.isAgg33
  z31 := Tryz.sizeOf33
  v31 := Tryz.zeroValue33
  t37 := Tryz.underlying545
  a37 := Tryz.isAgg545
  z37 := Tryz.sizeOf545
  v37 := Tryz.zeroValue545
  t70 := Tryz.underlying544
  a70 := Tryz.isAgg544
  z70 := Tryz.sizeOf544
  v70 := Tryz.zeroValue544
  t72 := Tryz.underlying547
  a72 := Tryz.isAgg547
  z72 := Tryz.sizeOf547
  v72 := Tryz.zeroValue547
  t75 := Tryz.underlying175
  a75 := Tryz.isAgg175
  z75 := Tryz.sizeOf175
  v75 := Tryz.zeroValue175
  t76 := Tryz.underlying535
  a76 := Tryz.isAgg535
  z76 := Tryz.sizeOf535
  v76 := Tryz.zeroValue535
  t127 := Tryz.underlying611
  a127 := Tryz.isAgg611
  z127 := Tryz.sizeOf611
  v127 := Tryz.zeroValue611
  t164 := Tryz.underlying651
  a164 := Tryz.isAgg651
  z164 := Tryz.sizeOf651
  v164 := Tryz.zeroValue651 }
end Go.Proofs
namespace Go.Proofs.YtmpciohmljpncaaGreatDoor
open Go.RowKit Go.Shelf Go.Ev Go.Sort Go.Proofs.YtmpciohmljpncaaGreatDoor.Sp
theorem own_grow1 {w : World} {base : Nat} {e : TypeId} {size n : Nat} {v : Value} {xs : List Value} (h : w.ownsRow base e size v n xs) (os : Array Obj) : (grow w os).ownsRow base e size v n xs := by
 refine ⟨h.1, ?_⟩
 rcases h.2 with hn | ⟨g, cap, cur, rfl, hb, hgg, rest⟩
 ·exact .inl hn
 ·refine .inr ⟨g, cap, cur, rfl, hb, ?_, rest⟩
  have hl := (Array.getElem?_eq_some_iff.1 hgg).1
  show (w.heap ++ os)[g]? = _
  rw [Array.getElem?_append_left hl]; exact hgg
theorem idsAt : IdsAt Tryz.prog 554 580 3 := fun w b1 o1 b2 o2 c0 c1 c2 b hE => by
 refine callsIn_wide.1 (ids_in w b1 o1 b2 o2 c0 c1 c2 b hE (fun base g cap x W h => ?_) fun W => AnyM.slices_Sort_int_none Tryz.sortI none 0 W)
 obtain ⟨g', cap', e, hbg, hg, hnc, hcm, hzl, hH⟩ := Go.Lib.holds_of_ownsRow (zs := [x]) h (by simp)
 injection e with e1 _ e2
 injection e1 with e1
 injection e1 with e1 _ _
 subst e1
 refine Calls.mono (AnyM.slices_Sort_int Tryz.sortI g 0 cap [x] W hH hg (by simp)) ?_
 rintro e w' ⟨rfl, q, os, rfl⟩
 have hs : ([x].mergeSort fun x y => decide (x ≤ y)) = [x] := by simp
 rw [hs]
 have h2 := Go.Lib.ownsRow_putRow (enc := Value.int .i64) (n := 1) (q := q) (k := 1) (zs := [x]) (ys := [x]) h rfl (Nat.le_refl _)
 refine ⟨rfl, by simpa using own_grow1 h2 os, rfl, rfl, rfl, by simp [grow, putRow, mapBlock, Sort.ahead], fun k hk hne => ?_⟩
 have hne' : g ≠ k := fun e => hne e.symm
 show ((putRow (Value.int .i64) (Sort.ahead W q) g 0 [x].toArray).heap ++ os)[k]? = _
 rw [Array.getElem?_append_left (by simpa [putRow, mapBlock, Sort.ahead] using hk)]
 simp [putRow, mapBlock, Sort.ahead, Array.getElem?_modify, hne']
end Go.Proofs.YtmpciohmljpncaaGreatDoor
namespace Go.Proofs
open Go.RowKit Go.Maps Go.Sort Go.Shelf Go.Ev Go.Proofs.YtmpciohmljpncaaGreatDoor.Sp
open Go.MapKept (Stamped)
open Go.WideElems (Fit rg)
theorem Tryz.sortsI (m : Nat) : AnyZI.SortsIn Tryz.prog Tryz.sortedI_ren Fence.wide m :=
 ⟨fun blk off cap ss W hH hblk hsz => callsIn_wide.2 (AnyM.slices_Sort_int Tryz.sortI blk off cap ss W hH hblk hsz),
  fun p cap W => callsIn_wide.2 (AnyM.slices_Sort_int_none Tryz.sortI p cap W)⟩
def anyR : Value → Option (DataW Unit × List MemPlace) := fun _ => some (.nil, [])
theorem keyI_at {n : Int} (h : -9223372036854775808 ≤ n ∧ n ≤ 9223372036854775807) : keyOf Tryz.prog 3 (.int .i64 n) = some (.int .i64 n) :=
 keyOf_int_mk Tryz.underlying3 (by simp [Lit.wf, IntKind.min, IntKind.max, IntKind.signed, IntKind.bits]; omega)
theorem keys_own {w : World} {b : Nat} {ms : List MapEntry} {clock : Nat} {l : List Int} (hb : w.heap[b]? = some (.map (List.toArray ms) clock)) (hst : Stamped (List.toArray ms) clock) (hk : ms.map (·.key) = l.map (Value.int .i64))
  (hl : ∀ x ∈ l, -9223372036854775808 ≤ x ∧ x ≤ 9223372036854775807) (hn : l.length ≤ 1000000) :
  ∃ D0 : DataW Unit, w.ownsMap Tryz.prog 3 anyR b ms.length D0 ∧ (intKeys D0).Perm l ∧ Maps.size D0 = l.length := by
 have hlen : ms.length = l.length := by have := congrArg List.length hk; simpa using this
 have hrd : ∀ x ∈ ms, ∃ n, WideElems.rd Tryz.prog 3 anyR x = some (.int .i64 n, .nil) ∧ x.key = .int .i64 n := by
  intro x hx
  have : x.key ∈ l.map (Value.int .i64) := by rw [← hk]; exact List.mem_map_of_mem hx
  obtain ⟨n, hn, e⟩ := List.mem_map.1 this
  refine ⟨n, ?_, e.symm⟩
  simp [WideElems.rd, ← e, keyI_at (hl n hn), anyR]
 refine ⟨.map ((ms.map (rg Tryz.prog 3 anyR)).foldr DataW.insert []), ⟨List.toArray ms, clock, hb, ⟨by simp [maxLen]; omega, hst, fun x hx => ?_⟩, by simp, by simp⟩, ?_, ?_⟩
 ·obtain ⟨n, h1, _⟩ := hrd x (by simpa using hx)
  exact ⟨_, h1⟩
 ·have hp : ((ms.map (rg Tryz.prog 3 anyR)).foldr DataW.insert []).Perm (ms.map (rg Tryz.prog 3 anyR)) := Go.WideShapes.sorted_perm _
  have h2 := hp.map (fun p => Go.intOf p.1)
  have e : (ms.map (rg Tryz.prog 3 anyR)).map (fun p => Go.intOf p.1) = l := by
   have : ∀ (ms : List MapEntry) (l : List Int), ms.map (·.key) = l.map (Value.int .i64) → (∀ x ∈ ms, ∃ n, WideElems.rd Tryz.prog 3 anyR x = some (.int .i64 n, .nil) ∧ x.key = .int .i64 n) → (ms.map (rg Tryz.prog 3 anyR)).map (fun p => Go.intOf p.1) = l := by
    intro ms
    induction ms with
    | nil => intro l h _; cases l with
     | nil => rfl
     | cons a r => simp at h
    | cons m r ih =>
     intro l h hr
     cases l with
     | nil => simp at h
     | cons a q =>
      simp only [List.map_cons, List.cons.injEq] at h ⊢
      obtain ⟨n, h1, h2⟩ := hr m (by simp)
      refine ⟨?_, ih q h.2 (fun x hx => hr x (by simp [hx]))⟩
      rw [h.1] at h2
      have h2 := (Value.int.inj h2).2
      have e : rg Tryz.prog 3 anyR m = (.int .i64 n, .nil) := by unfold rg; rw [h1]; exact Option.getD_some
      rw [e]
      exact h2.symm
   exact this ms l hk hrd
  rw [e] at h2
  exact h2
 ·simp [Maps.size, length_sorted, hlen]
theorem sortsI_of {g : Nat} {ρ : Ren} (L : SlLaysZI.n10 Tryz.prog ρ) (hg : ρ.f 10 = g) (ht : ρ.t 26 = 3) (hen : ∀ args w, (callFunc g args).run Tryz.prog w = .ok (.enter g args) w) : SortsI Tryz.prog 192 g 3 where
 nil := fun w B hB hc => by
  refine (callsIn_wide (n := 6)).1 ?_
  have hseq : SeqGives Fence.wide 3 Tryz.prog g #[.pointer (some ⟨B, 0, none⟩)] encZ (fun ss : List Int => ss = []) 0 w := by
   have := AnyZI.keys_gives_nil (ρ := ρ) L Fence.wide 3 trivial rfl B w hB hc
   rwa [hg] at this
  have cS := AnyZI.sorted_in Tryz.sortedI Fence.wide 6 trivial trivial trivial trivial rfl (by omega) (Tryz.sortsI _) (enters_of Tryz.func61 (by kernel_rfl) rfl) g #[.pointer (some ⟨B, 0, none⟩)] trivial hen _ 0 (Nat.zero_le _) (by omega) _ hseq
  refine CallsIn.mono (cS : CallsIn Fence.wide 6 Tryz.prog 192 _ _ _) ?_
  rintro e w' ⟨v, ss, rfl, rfl, hrow, hnil, hb⟩
  exact ⟨by rw [hnil.2 rfl], hb⟩
 row := fun w B b ms clock l hB hc hb hst hk hl hn => by
  obtain ⟨D0, hown, hperm, hsize⟩ := keys_own hb hst hk hl hn
  refine (callsIn_wide (n := 6)).1 ?_
  have hseq : SeqGives Fence.wide 3 Tryz.prog g #[.pointer (some ⟨B, 0, none⟩)] encZ (fun ss => ss.Perm (intKeys D0)) (Maps.size D0) w := by
   have := AnyZI.keys_gives (ρ := ρ) L Fence.wide 3 trivial rfl (by omega) B b ms.length D0 w hB hc (by rw [ht]; exact hown)
   rwa [hg] at this
  have cS := AnyZI.sorted_in Tryz.sortedI Fence.wide 6 trivial trivial trivial trivial rfl (by omega) (Tryz.sortsI _) (enters_of Tryz.func61 (by kernel_rfl) rfl) g #[.pointer (some ⟨B, 0, none⟩)] trivial hen _ (Maps.size D0) (by rw [hsize]; unfold maxLen; omega) (by omega) _ hseq
  refine CallsIn.mono (cS : CallsIn Fence.wide 6 Tryz.prog 192 _ _ _) ?_
  rintro e w' ⟨v, ss, rfl, hS, hrow, hnil, hbl⟩
  have hp : ss.Perm l := hS.trans hperm
  rw [sortI_eq hp, hp.length_eq] at hrow
  refine ⟨v, rfl, hrow, ?_, hbl⟩
  rw [hnil]
  constructor
  ·rintro rfl; simpa using hp.length_eq.symm
  ·intro h0; exact List.eq_nil_of_length_eq_zero (by rw [hp.length_eq]; exact h0)
theorem sorts290 : SortsI Tryz.prog 192 290 3 := sortsI_of Tryz.keys290 rfl rfl (enters_of Tryz.func290 (by kernel_rfl) rfl)
theorem sorts301 : SortsI Tryz.prog 192 301 3 := sortsI_of Tryz.keys301 rfl rfl (enters_of Tryz.func301 (by kernel_rfl) rfl)
theorem sorts361 : SortsI Tryz.prog 192 361 3 := sortsI_of Tryz.keys361 rfl rfl (enters_of Tryz.func361 (by kernel_rfl) rfl)
theorem sorts499 : SortsI Tryz.prog 192 499 3 := sortsI_of Tryz.keys499 rfl rfl (enters_of Tryz.func499 (by kernel_rfl) rfl)
theorem sorts562 : SortsI Tryz.prog 192 562 3 := sortsI_of Tryz.keys562 rfl rfl (enters_of Tryz.func562 (by kernel_rfl) rfl)
end Go.Proofs
namespace Go.Proofs
open Go.RowKit Go.Maps Go.Sort Go.Shelf Go.Ev Go.Proofs.YtmpciohmljpncaaGreatDoor.Sp
open Go.MapKept (Stamped)
open Go.WideElems (Fit rg)
theorem Tryz.sortsS (m : Nat) : AnyZ.SortsIn Tryz.prog Tryz.sortedS_ren Fence.wide m :=
 ⟨fun blk off cap ss W hH hblk hsz => callsIn_wide.2 (AnyM.slices_Sort_string Tryz.sortS blk off cap ss W hH hblk hsz),
  fun p cap W => callsIn_wide.2 (AnyM.slices_Sort_string_none Tryz.sortS p cap W)⟩
theorem keyS_at {l : List UInt8} (h : l.length ≤ 1000) : keyOf Tryz.prog 9 (strV l) = some (.string l) := by
 have hu := Tryz.underlying9
 unfold keyOf
 rw [hu]
 simp only [mapKey, hu, strV]
 have : l.length ≤ maxLen := by unfold maxLen; omega
 simp [ByteArray.size, this]
theorem keyS_own {w : World} {b : Nat} {ms : List MapEntry} {clock : Nat} {l : List (List UInt8)} (hb : w.heap[b]? = some (.map (List.toArray ms) clock)) (hst : Stamped (List.toArray ms) clock) (hk : ms.map (·.key) = l.map strV)
  (hl : ∀ x ∈ l, x.length ≤ 1000) (hn : l.length ≤ 1000000) :
  ∃ D0 : DataW Unit, w.ownsMap Tryz.prog 9 anyR b ms.length D0 ∧ (strKeys D0).Perm l ∧ Maps.size D0 = l.length := by
 have hlen : ms.length = l.length := by have := congrArg List.length hk; simpa using this
 have hrd : ∀ x ∈ ms, ∃ n, WideElems.rd Tryz.prog 9 anyR x = some (.string n, .nil) ∧ x.key = strV n := by
  intro x hx
  have : x.key ∈ l.map strV := by rw [← hk]; exact List.mem_map_of_mem hx
  obtain ⟨n, hn, e⟩ := List.mem_map.1 this
  refine ⟨n, ?_, e.symm⟩
  simp [WideElems.rd, ← e, keyS_at (hl n hn), anyR]
 refine ⟨.map ((ms.map (rg Tryz.prog 9 anyR)).foldr DataW.insert []), ⟨List.toArray ms, clock, hb, ⟨by simp [maxLen]; omega, hst, fun x hx => ?_⟩, by simp, by simp⟩, ?_, ?_⟩
 ·obtain ⟨n, h1, _⟩ := hrd x (by simpa using hx)
  exact ⟨_, h1⟩
 ·have hp : ((ms.map (rg Tryz.prog 9 anyR)).foldr DataW.insert []).Perm (ms.map (rg Tryz.prog 9 anyR)) := Go.WideShapes.sorted_perm _
  have h2 := hp.map (fun p => strOf p.1)
  have e : (ms.map (rg Tryz.prog 9 anyR)).map (fun p => strOf p.1) = l := by
   have : ∀ (ms : List MapEntry) (l : List (List UInt8)), ms.map (·.key) = l.map strV → (∀ x ∈ ms, ∃ n, WideElems.rd Tryz.prog 9 anyR x = some (.string n, .nil) ∧ x.key = strV n) → (ms.map (rg Tryz.prog 9 anyR)).map (fun p => strOf p.1) = l := by
    intro ms
    induction ms with
    | nil => intro l h _; cases l with
     | nil => rfl
     | cons a r => simp at h
    | cons m r ih =>
     intro l h hr
     cases l with
     | nil => simp at h
     | cons a q =>
      simp only [List.map_cons, List.cons.injEq] at h ⊢
      obtain ⟨n, h1, h2⟩ := hr m (by simp)
      refine ⟨?_, ih q h.2 (fun x hx => hr x (by simp [hx]))⟩
      rw [h.1] at h2
      have h2 := List.toArray_inj (ByteArray.mk.inj (Value.string.inj h2))
      have e : rg Tryz.prog 9 anyR m = (.string n, .nil) := by unfold rg; rw [h1]; exact Option.getD_some
      rw [e]
      exact h2.symm
   exact this ms l hk hrd
  rw [e] at h2
  exact h2
 ·simp [Maps.size, length_sorted, hlen]
theorem sortsS_of {g : Nat} {ρ : Ren} (L : SlLaysZ.n10 Tryz.prog ρ) (hg : ρ.f 10 = g) (ht : ρ.t 26 = 9) (hen : ∀ args w, (callFunc g args).run Tryz.prog w = .ok (.enter g args) w) : SortsS Tryz.prog 129 g 9 where
 nil := fun w B hB hc => by
  refine (callsIn_wide (n := 6)).1 ?_
  have hseq : SeqGives Fence.wide 3 Tryz.prog g #[.pointer (some ⟨B, 0, none⟩)] encStr (fun ss : List (List UInt8) => ss = []) 0 w := by
   have := AnyZ.keys_gives_nil (ρ := ρ) L Fence.wide 3 trivial rfl B w hB hc
   rwa [hg] at this
  have cS := AnyZ.sorted_in Tryz.sortedS Fence.wide 6 trivial trivial trivial trivial rfl (by omega) (Tryz.sortsS _) (enters_of Tryz.func206 (by kernel_rfl) rfl) g #[.pointer (some ⟨B, 0, none⟩)] trivial hen _ 0 (Nat.zero_le _) (by omega) _ hseq
  refine CallsIn.mono (cS : CallsIn Fence.wide 6 Tryz.prog 129 _ _ _) ?_
  rintro e w' ⟨v, ss, rfl, rfl, hrow, hnil, hb⟩
  exact ⟨by rw [hnil.2 rfl], hb⟩
 row := fun w B b ms clock l hB hc hb hst hk hl hn => by
  obtain ⟨D0, hown, hperm, hsize⟩ := keyS_own hb hst hk hl hn
  refine (callsIn_wide (n := 6)).1 ?_
  have hseq : SeqGives Fence.wide 3 Tryz.prog g #[.pointer (some ⟨B, 0, none⟩)] encStr (fun ss => ss.Perm (strKeys D0)) (Maps.size D0) w := by
   have := AnyZ.keys_gives (ρ := ρ) L Fence.wide 3 trivial rfl (by omega) B b ms.length D0 w hB hc (by rw [ht]; exact hown)
   rwa [hg] at this
  have cS := AnyZ.sorted_in Tryz.sortedS Fence.wide 6 trivial trivial trivial trivial rfl (by omega) (Tryz.sortsS _) (enters_of Tryz.func206 (by kernel_rfl) rfl) g #[.pointer (some ⟨B, 0, none⟩)] trivial hen _ (Maps.size D0) (by rw [hsize]; unfold maxLen; omega) (by omega) _ hseq
  refine CallsIn.mono (cS : CallsIn Fence.wide 6 Tryz.prog 129 _ _ _) ?_
  rintro e w' ⟨v, ss, rfl, hS, hrow, hnil, hbl⟩
  have hp : ss.Perm l := hS.trans hperm
  rw [sortS_eq hp, hp.length_eq] at hrow
  refine ⟨v, rfl, hrow, ?_, hbl⟩
  rw [hnil]
  constructor
  ·rintro rfl; simpa using hp.length_eq.symm
  ·intro h0; exact List.eq_nil_of_length_eq_zero (by rw [hp.length_eq]; exact h0)
theorem sorts207 : SortsS Tryz.prog 129 207 9 := sortsS_of Tryz.keys207 rfl rfl (enters_of Tryz.func207 (by kernel_rfl) rfl)
theorem Tryz.joinX : Builder.Extra Tryz.prog Tryz.layJoin_ren where
 sizeBuilder := by kernel_rfl
 liesBuilder := by kernel_rfl
 t5 := Tryz.underlying5
 a5 := Tryz.isAgg5
 z5 := Tryz.sizeOf5
 v5 := Tryz.zeroValue5
 infoByte := by kernel_rfl
 cellsByte := by kernel_rfl
 sizeByte := by kernel_rfl
 neB5 := by decide
theorem joinAt : JoinAt Tryz.prog 264 := fun bk o c xs sep w hc hb hn hcap hl => Any.strings_Join Tryz.layJoin Tryz.joinX bk o c xs sep w hc hb hn hcap hl
end Go.Proofs
namespace Go.Proofs
open Go Go.Ev Go.Proofs.YtmpciohmljpncaaGreatDoor
theorem fnAt {k : Nat} {fn : Func} (h : Tryz.prog.funcs[k]? = some fn) : E1.fn.get k = some (some fn) := by
 show (ofList 12 (Tryz.prog.funcs.toList.map some)).get k = _
 rw [ofList_get (by have := prog_nf; simpa using this), List.getElem?_map]
 have : Tryz.prog.funcs.toList[k]? = some fn := by simpa using h
 rw [this]; rfl
theorem cons_step {E : Env} {C : Cons} {n : Nat} {k0 : List AV → St → R (List (AV × St))} (h0 : ∀ args s l, k0 args s = .ok l → ∀ ι w vs, HRel ι s w → relL ι args vs → CallOk E n vs ι s w l) (hC : ConsOk (E := E) C) :
  ConsOk (E := E) fun f => cond (Nat.beq f n) (some k0) (C f) := by
 intro f k hk
 by_cases h : f = n
 ·subst h
  have : Nat.beq f f = true := by rw [beq_eq]; simp
  simp only [this, cond_true] at hk
  injection hk with hk; subst hk
  exact h0
 ·have : Nat.beq f n = false := by rw [beq_eq]; simp [h]
  simp only [this, cond_false] at hk
  exact hC f k hk
theorem elem_of {l : List Nat} {P : Nat → Prop} (h : ∀ x ∈ l, P x) : ∀ g, l.elem g = true → P g := fun g hg => h g (by simpa using hg)
theorem C1_ok : ConsOk (E := E1) C1 :=
 cons_step (sortS_cons (enters_of Tryz.func129 (by kernel_rfl) rfl) (elem_of (by intro x hx; simp at hx; subst hx; exact sorts207))) <|
 cons_step (sortI_cons (enters_of Tryz.func192 (by kernel_rfl) rfl) (elem_of (by intro x hx; simp at hx; rcases hx with rfl | rfl | rfl | rfl | rfl <;> first | exact sorts290 | exact sorts301 | exact sorts361 | exact sorts499 | exact sorts562))) <|
 cons_step (sumI_cons (enters_of Tryz.func320 (by kernel_rfl) rfl) sumAt) <|
 cons_step (pickI_cons (enters_of Tryz.func244 (by kernel_rfl) rfl) pickAt) <|
 cons_step (joinS_cons (enters_of Tryz.func264 (by kernel_rfl) rfl) joinAt) noCons_ok
theorem asks_ok : Quiets E1 C1 asks := elem_of (by
 intro x hx
 simp only [asks, List.mem_cons, List.mem_nil_iff, or_false] at hx
 rcases hx with rfl | rfl | rfl | rfl | rfl
 ·exact ⟨rfl, Tryz.f559, _, fnAt Tryz.func559, rfl, by decide +kernel⟩
 ·exact ⟨rfl, Tryz.f579, _, fnAt Tryz.func579, rfl, by decide +kernel⟩
 ·exact ⟨rfl, Tryz.f581, _, fnAt Tryz.func581, rfl, by decide +kernel⟩
 ·exact ⟨rfl, Tryz.f582, _, fnAt Tryz.func582, rfl, by decide +kernel⟩
 ·exact ⟨rfl, Tryz.f583, _, fnAt Tryz.func583, rfl, by decide +kernel⟩)
theorem C2_ok : ConsOk (E := E1) C2 :=
 cons_step (countI_cons E1_ok asks_ok (enters_of Tryz.func578 (by kernel_rfl) rfl) countAt) <|
 cons_step (idsI_cons E1_ok asks_ok (enters_of Tryz.func554 (by kernel_rfl) rfl) idsAt) C1_ok
end Go.Proofs
