/- split.parts, and the two loops over it: split.Sum, split.Pick. -/
import Derived.RangeFuncNested
import Derived.RangeFuncBound
import Derived.RangeFuncCalls
import Derived.RangeFuncLeaves
import Derived.RangeFuncBox
import Derived.Shelf.Abstract
import Derived.Shelf.RegionOpen
import Derived.WalkKit
import Derived.OwnWalkIn
import Derived.TacticsInMore
import Derived.LoopNIn
import Derived.LoopIn
import Derived.Test.YtgeddiondjoedaaSplitB
namespace Go.Proofs.Ytgeddiondjoedaa
open Go.RowKit Go.Shelf
attribute [local go_sem] Oper.semAt_some

/-- every block of cells but B0 stands -/
def KpC (B0 : Nat) (W W' : World) : Prop := W.heap.size ≤ W'.heap.size ∧ ∀ k c t f, W.heap[k]? = some (.cells c t f) → k ≠ B0 → W'.heap[k]? = some (.cells c t f)
theorem KpC.refl (B0 : Nat) (W : World) : KpC B0 W W := ⟨Nat.le_refl _, fun _ _ _ _ h _ => h⟩
theorem KpC.trans {B0 : Nat} {A B C : World} (h : KpC B0 A B) (k : KpC B0 B C) : KpC B0 A C :=
  ⟨Nat.le_trans h.1 k.1, fun i c t f hi hne => k.2 i c t f (h.2 i c t f hi hne) hne⟩
theorem KpC.alloc (B0 : Nat) (W : World) (o : Obj) : KpC B0 W (W.alloc o) :=
  ⟨by simp, fun k c t f h _ => (Below.heap_alloc W o k (Array.getElem?_eq_some_iff.1 h).1).trans h⟩
theorem KpC.setCell (B0 : Nat) (W : World) (u : Value) (o : Nat) : KpC B0 W (W.setCell ⟨B0, o, none⟩ u) :=
  ⟨by simp [World.setCell], fun k c t f h hne => (Below.heap_setCell W _ u k hne).trans h⟩
theorem KpC.putObj (B0 : Nat) {W : World} {l : Nat} {o o' : Obj} (hl : W.heap[l]? = some o) (ho : o.isCells = false) : KpC B0 W (W.putObj l o') :=
  ⟨by simp, fun k c t f h _ => (World.putObj_heap_other (fun e => by subst e; rw [hl] at h; cases h; cases ho)).trans h⟩
theorem KpC.cell {B0 : Nat} {W W' : World} (h : KpC B0 W W') {p : Addr} {u : Value} (hp : W.cell? p = some u) (hne : p.block ≠ B0) : W'.cell? p = some u := by
  unfold World.cell? at hp ⊢
  cases hb : W.heap[p.block]? with
  | none => simp [hb] at hp
  | some o =>
    cases o with
    | cells c t f => rw [h.2 _ c t f hb hne]; simpa [hb] using hp
    | _ => simp [hb] at hp

def encS (x : Int × (Int × Int)) : Array Value := #[.int .i64 x.1, .agg #[.int .i64 x.2.1, .int .i64 x.2.2]]
def seqP (ps : List (Int × Int)) (k : Nat) : List (Int × (Int × Int)) := (List.range k).map fun i => (sumW (ps.take i), ps.getD i (0, 0))
theorem seqP_succ (ps : List (Int × Int)) (k : Nat) : seqP ps (k+1) = seqP ps k ++ [(sumW (ps.take k), ps.getD k (0, 0))] := by simp [seqP, List.range_succ]
theorem seqP_len (ps : List (Int × Int)) (k : Nat) : (seqP ps k).length = k := by simp [seqP]

set_option maxHeartbeats 1000000 in
theorem parts_mk (a : Option Addr) (n cap : Nat) (w : World) (F : Fence) (m : Nat) (hF : F.fn 22) (hro : F.round = none) :
    CallsIn F m Try.prog 22 #[.slice a n cap] w fun e w' => e = .returned (.func (.func 23) #[] #[.pointer (some ⟨w.heap.size, 0, none⟩)]) ∧ w' = w.alloc (.cells #[.slice a n cap] 22) := by
  refine callsIn_of_wp Try.func22 rfl hF ?_ hro
  simp only [Try.ntmps22, List.size_toArray, List.length_cons, List.length_nil, Nat.reduceAdd, Nat.reduceSub, Array.replicate_succ, Array.replicate_zero, List.push_toArray, List.append_toArray, List.nil_append, List.cons_append]
  gi_wp2
  go_ret
  exact ⟨rfl, rfl⟩

set_option maxRecDepth 100000 in
set_option maxHeartbeats 2000000 in
theorem parts_round (F : Fence) (n : Nat) (hF : F.fn 23) (hro : F.round = none) (hn : 1 ≤ n) (l Bs B0 : Nat) (a : Option Addr) (cap : Nat) (ps : List (Int × Int)) (hb : SumFits ps)
    (J Jx : List (Int × (Int × Int)) → World → Prop) (W : World) (hB0 : B0 < W.heap.size) (hJ : AbidesFrom W.heap.size J)
    (hs : ∀ W', KpC B0 W W' → Parts W' (.slice a ps.length cap) ps)
    (hY : ∀ pre x W1, J pre W1 → pre.length < ps.length → YieldAt F (n - 1) Try.prog l (encS x) W1 fun e W' =>
      (e = .returned (.bool true) ∧ J (pre ++ [x]) W' ∧ KpC B0 W1 W') ∨ (e = .returned (.bool false) ∧ Jx (pre ++ [x]) W'))
    (hBs : W.cell? ⟨Bs, 0, none⟩ = some (.slice a ps.length cap)) (h0 : J [] W) :
    CallsIn F n Try.prog 23 #[.func (.yield l) #[] #[], .pointer (some ⟨Bs, 0, none⟩)] W fun e W' => (∃ v, e = .returned v) ∧
      ((∃ ys, ys = seqP ps ps.length ∧ J ys W') ∨ (∃ pre, (∃ k, k ≤ ps.length ∧ pre = seqP ps k) ∧ Jx pre W')) := by
  have hl' : (ps.length : Int) ≤ 9223372036854775807 := ((hs W (KpC.refl _ _)).shape).1
  have HS := hide hs; clear hs
  have HB := hide hb; clear hb
  refine callsIn_of_wp Try.func23 rfl hF ?_ hro
  simp only [Try.ntmps23, List.size_toArray, List.length_cons, List.length_nil, Nat.reduceAdd, Nat.reduceSub, Array.replicate_succ, Array.replicate_zero, List.push_toArray, List.append_toArray, List.nil_append, List.cons_append]
  gi_wp2
  gi_loopw [3, 8] (fun s i wr => ∃ k : Nat, k ≤ ps.length ∧ i = .int .i64 k ∧ s = .int .i64 (sumW (ps.take k)) ∧ J (seqP ps k) wr ∧ KpC B0 W wr)
    (fun _ i _ => ps.length - (intOf i).toNat)
  case atStart => exact ⟨0, Nat.zero_le _, rfl, rfl, h0, KpC.refl _ _⟩
  case round =>
    obtain ⟨k, hk, rfl, rfl, hJs, hnx⟩ := hrel
    by_cases hlt : k < ps.length
    · obtain ⟨b, off, rfl, hbb, c0, c1⟩ := parts_at (HS.out wr hnx) k hlt
      have hsum := sumW_snoc ps k hlt
      have b1 := HB.out k hk
      have b2 := HB.out (k+1) hlt
      rw [hsum] at b2
      have HSS := hide hsum
      clear hsum
      have hJ1 : J (seqP ps k) (wr.alloc (.cells #[.int .i64 ps[k].1, .int .i64 ps[k].2] 25)) := hJ _ _ _ none hJs (World.grownBy_alloc _ _ _) (fun r e => by cases e)
      obtain ⟨fn, tmps, assign, body, hy, hR⟩ := hY _ (sumW (ps.take k), ps[k]) _ hJ1 (by rw [seqP_len]; exact hlt)
      simp only [encS] at hy
      have hsz := hnx.1
      gi_wp2
      refine hR.mono ?_
      rintro e W3 (⟨rfl, hJ3, hk3⟩ | ⟨rfl, hJx3⟩)
      · have cw : W3.cell? ⟨wr.heap.size, 1, none⟩ = some (.int .i64 ps[k].2) := hk3.cell (p := ⟨wr.heap.size, 1, none⟩) (by simp) (by simp; omega)
        gi_wp2
        go_roundw
        case rel => exact ⟨k + 1, by omega, by go_num, by rw [HSS.out], by rw [seqP_succ]; simpa [hlt] using hJ3, (hnx.trans (KpC.alloc _ _ _)).trans hk3⟩
        case measure => simp [intOf]; omega
      · gi_wp2
        refine bodyPost_ret (results_none rfl _ _ _) rfl ?_
        exact ⟨⟨_, rfl⟩, .inr ⟨_, ⟨k + 1, by omega, by rw [seqP_succ]; simp [hlt]⟩, hJx3⟩⟩
    · obtain rfl : k = ps.length := by omega
      gi_wp2
      go_end0
      exact ⟨⟨_, rfl⟩, .inl ⟨_, rfl, hJs⟩⟩

theorem parts_stops (F : Fence) (n : Nat) (hF : F.fn 23) (hro : F.round = none) (hn : 1 ≤ n) (Bs B0 : Nat) (a : Option Addr) (cap : Nat) (ps : List (Int × Int)) (hb : SumFits ps) (w : World) (hB0 : B0 < w.heap.size)
    (hBs : w.cell? ⟨Bs, 0, none⟩ = some (.slice a ps.length cap)) (hBsl : Bs < w.heap.size)
    (hs : ∀ W W', Below w.heap.size w W → KpC B0 W W' → Parts W' (.slice a ps.length cap) ps) :
    SeqStopsK F n Try.prog 23 #[.pointer (some ⟨Bs, 0, none⟩)] encS (KpC B0) (fun ys => ys = seqP ps ps.length) (fun pre => ∃ k, k ≤ ps.length ∧ pre = seqP ps k) ps.length w :=
  fun l J Jx W hW hJ _ hY h0 =>
    parts_round F n hF hro hn l Bs B0 a cap ps hb J Jx W (Nat.lt_of_lt_of_le hB0 hW.size) hJ (fun W' h => hs W W' hW h) hY ((hW.cell (p := ⟨Bs, 0, none⟩) hBsl).trans hBs) h0

/-- parts read in a world read behind it, where only B0 of the cells has turned -/
theorem Parts.kpc {B0 : Nat} {W W' : World} {v : Value} {ps : List (Int × Int)} (h : Parts W v ps) (k : KpC B0 W W') (hlt : ∀ a n c, v = .slice (some a) n c → ps ≠ [] → a.block ≠ B0) : Parts W' v ps := by
  obtain ⟨h1, a, cap, h2, hcap, h3⟩ := h
  refine ⟨h1, a, cap, h2, hcap, fun i x hi => ?_⟩
  obtain ⟨b, off, ha, hb, hc⟩ := h3 i x hi
  refine ⟨b, off, ha, Nat.lt_of_lt_of_le hb k.1, fun j u hu => k.cell (hc j u hu) ?_⟩
  have hne : ps ≠ [] := fun e => by subst e; simp at hi
  have := hlt ⟨b, off, none⟩ _ _ (by rw [h2, ha]) hne
  exact this
/-- a block of cells stands where no block of cells has turned -/
theorem cells_kept {X Y : World} {row : Option Nat} (hg : X.grownBy Y row) (hr : ∀ r, row = some r → ∃ o : Obj, X.heap[r]? = some o ∧ o.isCells = false) {k : Nat} {c : Array Value} {t : TypeId} {f : Nat × Nat} (h : X.heap[k]? = some (.cells c t f)) : Y.heap[k]? = some (.cells c t f) :=
  (hg.block k (Array.getElem?_eq_some_iff.1 h).1 (fun e => by obtain ⟨o, ho, hc⟩ := hr k e.symm; rw [h] at ho; cases ho; cases hc)).trans h

def lastS (pre : List (Int × (Int × Int))) : Int := (pre.getLast?).elim 0 (fun x => wrap64 (x.1 + x.2.2))
theorem lastS_snoc (pre : List (Int × (Int × Int))) (x) : lastS (pre ++ [x]) = wrap64 (x.1 + x.2.2) := by simp [lastS]
theorem lastS_all (ps : List (Int × Int)) (hb : SumFits ps) : lastS (seqP ps ps.length) = sumW ps := by
  cases hl : ps.length with
  | zero => rw [List.eq_nil_of_length_eq_zero hl]; rfl
  | succ k =>
    rw [seqP_succ, lastS_snoc]
    have hk : k < ps.length := by omega
    have h1 := sumW_snoc ps k hk
    rw [List.take_of_length_le (by omega)] at h1
    have h2 := hb ps.length (Nat.le_refl _)
    rw [List.take_length] at h2
    have h3 : (ps.getD k (0, 0)) = ps[k] := by simp [hk]
    rw [h3, ← h1]
    exact IntWalk.wrap64_in _ ⟨by omega, by omega⟩

set_option maxRecDepth 100000 in
set_option maxHeartbeats 2000000 in
theorem sum_in (ps : List (Int × Int)) (v : Value) (w : World) (hs : Parts w v ps) (hb : SumFits ps) :
    CallsIn Fence.wide 9 Try.prog 12 #[v] w fun e w' => e = .returned (.int .i64 (sumW ps)) ∧ Ext w w' := by
  obtain ⟨hl', a, cap, rfl⟩ := hs.shape
  have hblk : ∀ a' n c, Value.slice a ps.length cap = .slice (some a') n c → 0 < ps.length → a'.block < w.heap.size := by
    intro a' n c e hp
    obtain ⟨b, off, ha, hb, _⟩ := parts_at hs 0 hp
    cases e; cases ha; exact hb
  have HK := hide hblk; clear hblk
  have HC := hide hs; clear hs
  have HB := hide hb; clear hb
  refine callsIn_of_wp_marks Try.func12 rfl trivial ?_ rfl
  simp only [Try.ntmps12, List.size_toArray, List.length_cons, List.length_nil, Nat.reduceAdd, Nat.reduceSub, Array.replicate_succ, Array.replicate_zero, List.push_toArray, List.append_toArray, List.nil_append, List.cons_append]
  gi_wp2_with (refine ⟨trivial, ?_⟩; gi_at_call 22; refine (parts_mk _ _ _ _ _ _ trivial rfl).mono ?_; rintro e w' ⟨rfl, rfl⟩)
  have bS := (Boxed.new w 3 (.int .i64 0)).alloc (.cells #[.slice a ps.length cap] 22)
  have bA := Boxed.new (w.alloc (.cells #[.int .i64 0] 3)) 22 (.slice a ps.length cap)
  simp only [World.size_alloc] at bA
  have hB0 : Below w.heap.size w ((w.alloc (.cells #[.int .i64 0] 3)).alloc (.cells #[.slice a ps.length cap] 22)) := ((Below.refl _ w).alloc (Nat.le_refl _) _).alloc (by simp) _
  have hsz : ((w.alloc (.cells #[.int .i64 0] 3)).alloc (.cells #[.slice a ps.length cap] 22)).heap.size = w.heap.size + 2 := by simp
  obtain ⟨W0, hW0⟩ : ∃ W0, (w.alloc (.cells #[.int .i64 0] 3)).alloc (.cells #[.slice a ps.length cap] 22) = W0 := ⟨_, rfl⟩
  rw [hW0] at bS bA hB0 hsz ⊢
  clear hW0
  refine wpIn_rangeFunc_ownH rfl (by decide) (gf := 23) (lb := #[.pointer (some ⟨w.heap.size + 1, 0, none⟩)]) rfl trivial (enters_of Try.func23 (by kernel_rfl) rfl)
    (parts_stops Fence.wide _ trivial rfl (by decide) (w.heap.size + 1) w.heap.size a cap ps HB.out W0 (by omega) bA.cell (by omega)
      (fun W W' hW hk => Parts.kpc ((HC.out.ext hB0).ext hW) hk (fun a' n c e hne => by
        have := HK.out a' n c e (List.length_pos_iff.2 hne); omega)))
    KpC.trans (fun W l o o' _ hl ho _ => KpC.putObj _ hl ho) (Below.refl _ _) (fun _ => rfl)
    (fun pre W => Boxed W w.heap.size 3 (.int .i64 (lastS pre)) ∧ Below w.heap.size w W)
    (fun _ _ _ => False)
    (OwnFrom.and (Own.from (boxed_own _ _ _) _) (ownFrom_below (Nat.le_refl _) (by omega)))
    (fun _ _ _ _ _ hs _ _ => hs)
    ⟨bS, hB0⟩
    (fun x a' W => ∃ Bx, w.heap.size < Bx ∧ W.heap[Bx]? = some (.cells #[.int .i64 x.2.1, .int .i64 x.2.2] 25 (0, 0)) ∧ a' = { tmps := #[.slice a ps.length cap, undef, .int .i64 0, .pointer (some ⟨w.heap.size, 0, none⟩), .int .i64 x.1, .pointer (some ⟨Bx, 0, none⟩), .slice a ps.length cap, .func (.func 23) #[] #[.pointer (some ⟨w.heap.size + 1, 0, none⟩)], .int .i64 x.1, .agg #[.int .i64 x.2.1, .int .i64 x.2.2], undef, undef, undef, undef, undef], defers := [] })
    (fun x a' _ X Y row hs hg hr => by
      obtain ⟨Bx, h1, h2, h3⟩ := hs
      exact ⟨Bx, h1, cells_kept hg (fun r e => (hr r e).2) h2, h3⟩)
    ?assign ?body ?done ?stop
  case assign =>
    rintro l pre x W K ⟨bS1, hB1⟩ hK
    have hsW := hB1.size
    unfold encS
    gi_wp2
    refine hK _ _ ((KeepsOthers.alloc _ _).from _) (KpC.alloc _ _ _) ⟨bS1.alloc _, hB1.alloc hB1.size _⟩ ⟨W.heap.size, bS1.lt, ?_, rfl⟩
    exact World.alloc_heap_new W _
  case body =>
    rintro l pre x a' W hl ⟨r, hr⟩ ⟨bS1, hB1⟩ ⟨Bx, hBx, bX, rfl⟩ hlt
    have cS := bS1.cell
    have fS := bS1.frozen
    have cX : W.cell? ⟨Bx, 1, none⟩ = some (.int .i64 x.2.2) := by simp [World.cell?, bX]
    gi_wp2
    exact ⟨(KeepsOthers.setCell _ _ _).from _, KpC.setCell _ _ _ _, by rw [lastS_snoc]; exact bS1.set _, hB1.setCell (p := ⟨w.heap.size, 0, none⟩) (Nat.le_refl _) _⟩
  case done =>
    rintro D ys W hD rfl ⟨bS1, hB1⟩ hK
    have cS := bS1.cell
    gi_wp2
    refine ⟨by simp, .inl ⟨_, _, rfl, run_takeDeferred hK, ?_⟩⟩
    exact ⟨_, results_tmp rfl _ _ _, (by show Ending.returned (.int .i64 (lastS (seqP ps ps.length))) = _; rw [lastS_all ps HB.out]), hB1.trans (belowK_b (w := w) (Nat.le_refl _) W D _ _ (by omega) hK rfl rfl)⟩
  case stop =>
    rintro D c pre W _ _ h _
    exact h.elim
theorem sum_any (ps : List (Int × Int)) (v : Value) (w : World) (hs : Parts w v ps) (hb : SumFits ps) :
    Calls Try.prog 12 #[v] w fun e w' => e = .returned (.int .i64 (sumW ps)) ∧ Ext w w' := callsIn_wide.1 (sum_in ps v w hs hb)
end Go.Proofs.Ytgeddiondjoedaa
