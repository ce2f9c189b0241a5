import Derived.Test.YtceaeiaoanhlnaaDoorZrlw
import Derived.Test.YtceaeiaoanhlnaaDoorOwAw
namespace Go.Proofs.YtceaeiaoanhlnaaDoor
open Go.ChangeShapes Go.WideShapes Go.ChangeAt Go.RowKit Go.Lib Go.Shelf
set_option maxRecDepth 100000 in
set_option maxHeartbeats 4000000 in
theorem sameRow_any (H : List HeadD) (u v : Value) (w : World) (hx : Heads w u H) (hy : Heads w v H) :
  Calls Tryd.prog 11 #[u, v] w fun e w' => e = .returned (.bool true) ∧ Ext w w' := by
 have HX := hide hx
 have HY := hide hy
 obtain ⟨hl1, a, cap, rfl⟩ := hx.shape
 obtain ⟨hl2, a', cap', rfl⟩ := hy.shape
 clear hx hy
 go_enter Tryd.func11, Tryd.ntmps11
 go_wp2
 go_loopw [5] (fun i wr => ∃ k : Nat, k ≤ H.length ∧ i = .int .i64 k ∧ Ext w wr) (fun i _ => H.length - (intOf i).toNat)
 case atStart => exact ⟨0, Nat.zero_le _, rfl, Below.refl _ _⟩
 case round =>
  obtain ⟨k, hk, rfl, hE⟩ := hrel
  by_cases hlt : k < H.length
  ·obtain ⟨b, off, rfl, hbb, c0, c1⟩ := heads_at (HX.out.ext hE) k hlt
   obtain ⟨b', off', rfl, hbb', d0, d1⟩ := heads_at (HY.out.ext hE) k hlt
   have hkz : (k : Int) < H.length := by omega
   generalize H[k] = x at *
   go_wp2_with fail
   go_quiet (fail)
   go_wp2
   go_roundw
   case rel => exact ⟨k + 1, by omega, by go_num, Below.drewN' hE _⟩
   case measure => simp [intOf]; omega
  ·have hge : H.length ≤ k := by omega
   have hkz : ¬ (k : Int) < H.length := by omega
   go_wp2
   go_ret
   exact ⟨rfl, hE⟩
/-- a block of rules -/
def OfTR (w : World) (g : Nat) : Prop := ∃ cs f, w.heap[g]? = some (.cells cs 43 f)
theorem owns_keepR {B : Nat} {w w' : World} {g : Nat} {T : TypeId} {size n : Nat} {v : Value} {xs : List Value} (h : w.ownsRow B T size v n xs) (k : Keeps (fun q => q = g) w w') (hg : OfTR w g) (hT : 43 ≠ T) : w'.ownsRow B T size v n xs :=
 owns_keeps h k fun q hq e => by
  subst e
  obtain ⟨cs, f, hc⟩ := hg
  exact hT (owns_type h hq hc)
theorem RuleOwn.keepR {B : Nat} {w w' : World} {r : RuleD} {g : Nat} (h : RuleOwn B w r) (k : Keeps (fun q => q = g) w w') (hg : OfTR w g) : RuleOwn B w' r :=
 ⟨owns_keepR h.1 k hg (by decide), owns_keepR h.2.1 k hg (by decide), owns_keepR h.2.2.1 k hg (by decide), owns_keepR h.2.2.2 k hg (by decide)⟩
/-- no rule -/
def zeroR : RuleD := ⟨⟨#[]⟩, false, .slice none 0 0, [], .slice none 0 0, [], 0, 0, 0, 0, ⟨#[]⟩, .slice none 0 0, [], .slice none 0 0, [], 0, 0, 0, 0, 0, 0, 0, 0⟩
set_option maxRecDepth 100000 in
set_option maxHeartbeats 8000000 in
/-- a rule is told in new memory -/
theorem trule_any {B b : Nat} {w : World} {Rs : List RuleD} {I : List Int} (hT : TabAt B w b Rs I) (k : Nat) (hk : k < Rs.length) (hl : ∀ r ∈ Rs, r.H.length ≤ 1000000 ∧ r.P.length ≤ 1000000 ∧ r.S.length ≤ 1000000 ∧ r.D.length ≤ 1000000) (h20 : Rs.length ≤ 1000) :
  Calls Tryd.prog 10 #[.pointer (some ⟨b, 0, none⟩), .int .i64 k] w fun e w' => ∃ r', e = .returned r'.val ∧ Same Rs[k] r' ∧ RuleOwn w.heap.size w' r' ∧ Ext w w' := by
 obtain ⟨dd, hd1, hd2⟩ := Tryd.ruleDesc
 obtain ⟨-, ⟨vr, vi, hb, hvr, -⟩, hro⟩ := hT
 obtain ⟨xa, xc, rfl⟩ := owns_shape hvr
 have hsl : Rules w (.slice xa Rs.length xc) Rs := Sl.of_own' encR_len hvr
 obtain ⟨b', off, rfl, hbb, hc⟩ := rules_at hsl k hk
 have hrm := List.getElem_mem hk
 have hok := (hro _ hrm).ok
 have hlr := hl _ hrm
 generalize Rs[k] = r at hc hok hlr ⊢
 have hkz : (k : Int) < Rs.length := by omega
 have hk0 : ¬ (k : Int) < 0 := by omega
 have hkg : ¬ (k : Int) ≥ Rs.length := by omega
 have hx0 : Ext w (w.alloc (.cells (encR zeroR).toArray 43)) := (Below.refl _ w).alloc (Nat.le_refl _) _
 have hz0 := heap_alloc_new w (.cells (encR zeroR).toArray 43)
 have c0 : (w.alloc (.cells (encR zeroR).toArray 43)).cell? ⟨b, 0, none⟩ = some (.slice (some ⟨b', off, none⟩) Rs.length xc) := (hx0.cell (p := ⟨b, 0, none⟩) (Array.getElem?_eq_some_iff.1 hb).1).trans (by simp only [World.cell?]; rw [hb]; rfl)
 have HC := hide hc
 have HOK := hide hok
 have HLR := hide hlr
 clear hvr hro hsl hc hok hlr hl hb hrm
 go_enter Tryd.func10, Tryd.ntmps10
 go_upto_region 1 with (fail)
 have hw0 : w.alloc (.cells (encR zeroR).toArray 43) = w.alloc (.cells #[.string ⟨#[]⟩, .bool false, .slice none 0 0, .slice none 0 0, .int .i64 0, .int .i64 0, .int .i64 0, .int .i64 0, .string ⟨#[]⟩, .slice none 0 0, .slice none 0 0, .int .i64 0, .int .i64 0, .int .i64 0, .int .i64 0, .int .i64 0, .int .i64 0, .int .i64 0, .int .i64 0] 43) := rfl
 rw [hw0] at hx0 hz0 c0
 clear hw0
 generalize w.alloc (.cells #[.string ⟨#[]⟩, .bool false, .slice none 0 0, .slice none 0 0, .int .i64 0, .int .i64 0, .int .i64 0, .int .i64 0, .string ⟨#[]⟩, .slice none 0 0, .slice none 0 0, .int .i64 0, .int .i64 0, .int .i64 0, .int .i64 0, .int .i64 0, .int .i64 0, .int .i64 0, .int .i64 0] 43) = W0 at hx0 hz0 c0 ⊢
 have HX0 := hide hx0
 have HZ0 := hide hz0
 clear hx0 hz0
 go_upto_region 3 with (fail)
 refine wp_region_lit ?_
 refine wpList_plain rfl fun K hK => ?_
 go_simp
 refine hK _ _ ?_
 refine wpList_plain rfl fun K hK => ?_
 go_simp
 refine hK _ _ ?_
 refine wpList_plain rfl fun K hK => ?_
 go_simp
 refine hK _ _ ?_
 refine wpList_plain rfl fun K hK => ?_
 go_simp
 refine hK _ _ ?_
 refine wpList_plain rfl fun K hK => ?_
 go_simp
 refine hK _ _ ?_
 refine wpList_plain rfl fun K hK => ?_
 go_simp
 refine hK _ _ ?_
 refine wpList_load_mid rfl 43 (.tmp 22) rfl b' (off + k * 19) rfl (encR r) dd (fun j v hv => (HX0.out.cell (p := ⟨b', off + k * 19 + j, none⟩) hbb).trans (HC.out j v hv)) hd1 hd2 Tryd.ruleSize ?_
 simp only [Act.put]
 go_wp2_with fail
 refine (twin_any r W0 (HOK.out.ext HX0.out) HLR.out).mono ?_
 rintro e w1 ⟨r', rfl, hsame, hown, E1⟩
 have hz1 := (E1.block _ (Array.getElem?_eq_some_iff.1 HZ0.out).1).trans HZ0.out
 have HS := hide hsame
 have HE1 := hide (HX0.out.trans E1)
 have HOW := hide (hown.mono HX0.out.size)
 clear hsame hown E1 c0
 have hth : w1.there w.heap.size 0 (encR r').toArray.size := fun j hj => by
  have hj' : j < 19 := hj
  rw [Nat.zero_add]
  refine ⟨?_, by simp [World.frozen?, hz1]⟩
  simp only [World.cell?, hz1]
  simp [encR, hj']
 have hrs := World.rangeAt_setCells_same w1 w.heap.size 0 (encR r') hth
 have hk5 := keeps_setCells w.heap.size (encR r') 0 w1
 have hof : OfTR w1 w.heap.size := ⟨_, _, hz1⟩
 obtain ⟨W2, hW2⟩ : ∃ W2, w1.setCells w.heap.size 0 (encR r') = W2 := ⟨_, rfl⟩
 rw [hW2] at hrs hk5
 have HEF := hide (Keeps.ext HE1.out hk5 (fun g hg => by omega))
 have HOF := hide (HOW.out.keepR hk5 hof)
 have HRG := hide hrs
 have HONE := hide (all_oneCell_toArray (encR_one' r' HOW.out.ok))
 have hW2' : w1.setCells w.heap.size 0 (encR r').toArray.toList = W2 := hW2
 clear hrs hk5 hz1 hof hW2
 go_wp2_with (refine wpList_store_mid rfl 43 (.tmp 4) (.tmp 24) rfl w.heap.size 0 (encR r').toArray rfl rfl hth Tryd.ruleSize HONE.out ?_; rw [hW2'])
 (try simp only [Exit.inBlock, Exit.then])
 refine bodyPost_ret (results_cell_mid rfl _ _ w.heap.size 0 (encR r') dd rfl HRG.out hd1 hd2 Tryd.ruleSize) rfl ?_
 exact ⟨r', rfl, HS.out, HOF.out, HEF.out⟩
set_option maxRecDepth 100000 in
set_option maxHeartbeats 8000000 in
/-- of no number that a rule has: none -/
theorem trule_none {B b : Nat} {w : World} {Rs : List RuleD} {I : List Int} (hT : TabAt B w b Rs I) (n : Int) (hn : n < 0 ∨ (Rs.length : Int) ≤ n) (h20 : Rs.length ≤ 1000) :
  Calls Tryd.prog 10 #[.pointer (some ⟨b, 0, none⟩), .int .i64 n] w fun e w' => e = .returned zeroR.val ∧ Ext w w' := by
 obtain ⟨dd, hd1, hd2⟩ := Tryd.ruleDesc
 obtain ⟨-, ⟨vr, vi, hb, hvr, -⟩, hro⟩ := hT
 obtain ⟨xa, xc, rfl⟩ := owns_shape hvr
 have hx0 : Ext w (w.alloc (.cells (encR zeroR).toArray 43)) := (Below.refl _ w).alloc (Nat.le_refl _) _
 have hz0 := heap_alloc_new w (.cells (encR zeroR).toArray 43)
 have c0 : (w.alloc (.cells (encR zeroR).toArray 43)).cell? ⟨b, 0, none⟩ = some (.slice xa Rs.length xc) := (hx0.cell (p := ⟨b, 0, none⟩) (Array.getElem?_eq_some_iff.1 hb).1).trans (by simp only [World.cell?]; rw [hb]; rfl)
 have hw0 : w.alloc (.cells (encR zeroR).toArray 43) = w.alloc (.cells #[.string ⟨#[]⟩, .bool false, .slice none 0 0, .slice none 0 0, .int .i64 0, .int .i64 0, .int .i64 0, .int .i64 0, .string ⟨#[]⟩, .slice none 0 0, .slice none 0 0, .int .i64 0, .int .i64 0, .int .i64 0, .int .i64 0, .int .i64 0, .int .i64 0, .int .i64 0, .int .i64 0] 43) := rfl
 rw [hw0] at hx0 hz0 c0
 clear hw0 hvr hro hb
 have HX0 := hide hx0
 have HZ0 := hide hz0
 clear hx0 hz0
 have hcase : n < 0 ∨ (¬ n < 0 ∧ n ≥ Rs.length) := by omega
 clear hn
 rcases hcase with h1 | ⟨h1, h2⟩
 all_goals
  go_enter Tryd.func10, Tryd.ntmps10
  go_upto_region 1 with (fail)
  generalize w.alloc (.cells #[.string ⟨#[]⟩, .bool false, .slice none 0 0, .slice none 0 0, .int .i64 0, .int .i64 0, .int .i64 0, .int .i64 0, .string ⟨#[]⟩, .slice none 0 0, .slice none 0 0, .int .i64 0, .int .i64 0, .int .i64 0, .int .i64 0, .int .i64 0, .int .i64 0, .int .i64 0, .int .i64 0] 43) = W0 at HX0 HZ0 c0 ⊢
  go_upto_region 2 with (fail)
  have hz1 := HZ0.out
  have hth : W0.there w.heap.size 0 (encR zeroR).toArray.size := fun j hj => by
   have hj' : j < 19 := hj
   rw [Nat.zero_add]
   refine ⟨?_, by simp [World.frozen?, hz1]⟩
   simp only [World.cell?, hz1]
   simp [encR, zeroR, hj']
  have hrs := World.rangeAt_setCells_same W0 w.heap.size 0 (encR zeroR) hth
  have hk5 := keeps_setCells w.heap.size (encR zeroR) 0 W0
  obtain ⟨W2, hW2⟩ : ∃ W2, W0.setCells w.heap.size 0 (encR zeroR) = W2 := ⟨_, rfl⟩
  rw [hW2] at hrs hk5
  have HEF := hide (Keeps.ext HX0.out hk5 (fun g hg => by omega))
  have HRG := hide hrs
  have HONE := hide (all_oneCell_toArray (encR_one' zeroR (w := W0) ⟨sl_nil _ _ _, sl_nil _ _ _, sl_nil _ _ _, sl_nil _ _ _⟩))
  have hW2' : W0.setCells w.heap.size 0 (encR zeroR).toArray.toList = W2 := hW2
  clear hrs hk5 hz1 c0 hW2
  go_wp2_with (refine wpList_store_mid rfl 43 (.tmp 4) (.tmp 16) rfl w.heap.size 0 (encR zeroR).toArray rfl rfl hth Tryd.ruleSize HONE.out ?_; rw [hW2'])
  (try simp only [Exit.inBlock, Exit.then])
  refine bodyPost_ret (results_cell_mid rfl _ _ w.heap.size 0 (encR zeroR) dd rfl HRG.out hd1 hd2 Tryd.ruleSize) rfl ?_
  exact ⟨rfl, HEF.out⟩
end Go.Proofs.YtceaeiaoanhlnaaDoor
