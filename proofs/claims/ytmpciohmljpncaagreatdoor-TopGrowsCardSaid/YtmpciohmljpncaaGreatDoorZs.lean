import Derived.Test.YtmpciohmljpncaaGreatDoorZa
import Derived.RangeFuncNested
import Derived.RangeFuncBound
import Derived.RangeFuncCalls
import Derived.RangeFuncLeaves
import Derived.RangeFuncBox
import Derived.Shelf.Abstract
import Derived.Shelf.RegionOpen
import Derived.WalkKit
import Derived.OwnWalkIn
import Derived.TacticsInMore
import Derived.LoopNIn
import Derived.LoopIn
import Derived.BigQuiet
import Derived.Deep.QuietTactic

/- What the references' package 1 computes. -/
namespace Go.Proofs.YtmpciohmljpncaaGreatDoor
open Go.ChangeShapes Go.WideShapes Go.ChangeAt Go.RowKit
def around (n m : Int) : Int := (if n < 0 then -(n+1) else n) % m
theorem around_bd (n m : Int) (hm : 1 ≤ m) : 0 ≤ around n m ∧ around n m < m := by
 unfold around; exact ⟨Int.emod_nonneg _ (by omega), Int.emod_lt_of_pos _ (by omega)⟩

set_option maxHeartbeats 400000 in
theorem around_any (n m : Int) (w : World) (hn : I64 n) (hm : 1 ≤ m ∧ m ≤ 9223372036854775807) :
  Calls Tryz.prog 5 #[.int .i64 n, .int .i64 m] w fun e w' => e = .returned (.int .i64 (around n m)) ∧ w = w' := by
 unfold I64 at hn
 by_cases h : n < 0
 ·have e1 : (-(n + 1)).tmod m = -(n + 1) % m := Int.tmod_eq_emod_of_nonneg (by omega)
  go_enter Tryz.func5, Tryz.ntmps5
  go_wp2
  go_ret
  exact ⟨ret_int (by rw [around, if_pos h]), rfl⟩
 ·go_enter Tryz.func5, Tryz.ntmps5
  go_wp2
  go_ret
  exact ⟨ret_int (by rw [around, if_neg (by omega)]), rfl⟩
end Go.Proofs.YtmpciohmljpncaaGreatDoor

/- The references of layer 6. -/
namespace Go.Proofs.YtmpciohmljpncaaGreatDoor.Sp
open Go.ChangeShapes Go.WideShapes Go.ChangeAt Go.RowKit
def sumW (l : List (Int × Int)) : Int := (l.map (·.2)).sum
theorem sumW_snoc (ps : List (Int × Int)) (k : Nat) (h : k < ps.length) : sumW (ps.take (k+1)) = sumW (ps.take k) + ps[k].2 := by
 unfold sumW; rw [List.take_succ_eq_append_getElem h, List.map_append, List.sum_append]; simp

/-- all partial sums fit -/
def SumFits (ps : List (Int × Int)) : Prop := ∀ k, k ≤ ps.length → -4611686018427387904 ≤ sumW (ps.take k) ∧ sumW (ps.take k) ≤ 4611686018427387904

def madeN (m : List Int) : Int := if 0 < m.length then around (m.getD 0 0) 1000 else 0
def madeAt (m : List Int) (i : Nat) : Int × Int :=
 let w := if i + 1 < m.length then around (m.getD (i+1) 0) 10 else 0
 (1 + (madeN m / 4 + i) % 5, if (i : Int) = madeN m % 4 then 1 + w % 9 else w)
def made (m : List Int) : List (Int × Int) := (List.range (madeN m % 4 + 1).toNat).map (madeAt m)

end Go.Proofs.YtmpciohmljpncaaGreatDoor.Sp

/- The references of layer 6: Pick. -/
namespace Go.Proofs.YtmpciohmljpncaaGreatDoor.Sp
open Go.ChangeShapes Go.WideShapes Go.ChangeAt Go.RowKit
/-- the part at which a rest falls -/
def pickR : List (Int × Int) → Int → Int
 | [], _ => 0
 | p :: l, r => if r < p.2 then p.1 else pickR l (r - p.2)
def pick (ps : List (Int × Int)) (d : Int) : Int := if sumW ps < 1 then 0 else pickR ps (d % sumW ps)
def Small (ps : List (Int × Int)) : Prop := ∀ p ∈ ps, (0 ≤ p.2 ∧ p.2 ≤ 4611686018427387904) ∧ I64 p.1

theorem pickR_drop (ps : List (Int × Int)) (k : Nat) (h : k < ps.length) (r : Int) : pickR (ps.drop k) r = if r < ps[k].2 then ps[k].1 else pickR (ps.drop (k+1)) (r - ps[k].2) := by
 rw [List.drop_eq_getElem_cons h]; rfl

end Go.Proofs.YtmpciohmljpncaaGreatDoor.Sp

/- split.parts, and the two loops over it: split.Sum, split.Pick. -/
namespace Go.Proofs.YtmpciohmljpncaaGreatDoor.Sp
open Go.RowKit Go.Shelf
attribute [local go_sem] Oper.semAt_some

/-- every block of cells but B0 stands -/
def KpC (B0 : Nat) (W W' : World) : Prop := W.heap.size ≤ W'.heap.size ∧ ∀ k c t f, W.heap[k]? = some (.cells c t f) → k ≠ B0 → W'.heap[k]? = some (.cells c t f)
theorem KpC.refl (B0 : Nat) (W : World) : KpC B0 W W := ⟨Nat.le_refl _, fun _ _ _ _ h _ => h⟩
theorem KpC.trans {B0 : Nat} {A B C : World} (h : KpC B0 A B) (k : KpC B0 B C) : KpC B0 A C :=
 ⟨Nat.le_trans h.1 k.1, fun i c t f hi hne => k.2 i c t f (h.2 i c t f hi hne) hne⟩
theorem KpC.alloc (B0 : Nat) (W : World) (o : Obj) : KpC B0 W (W.alloc o) :=
 ⟨by simp, fun k c t f h _ => (Below.heap_alloc W o k (Array.getElem?_eq_some_iff.1 h).1).trans h⟩
theorem KpC.setCell (B0 : Nat) (W : World) (u : Value) (o : Nat) : KpC B0 W (W.setCell ⟨B0, o, none⟩ u) :=
 ⟨by simp [World.setCell], fun k c t f h hne => (Below.heap_setCell W _ u k hne).trans h⟩
theorem KpC.putObj (B0 : Nat) {W : World} {l : Nat} {o o' : Obj} (hl : W.heap[l]? = some o) (ho : o.isCells = false) : KpC B0 W (W.putObj l o') :=
 ⟨by simp, fun k c t f h _ => (World.putObj_heap_other (fun e => by subst e; rw [hl] at h; cases h; cases ho)).trans h⟩
theorem KpC.cell {B0 : Nat} {W W' : World} (h : KpC B0 W W') {p : Addr} {u : Value} (hp : W.cell? p = some u) (hne : p.block ≠ B0) : W'.cell? p = some u := by
 unfold World.cell? at hp ⊢
 cases hb : W.heap[p.block]? with
 | none => simp [hb] at hp
 | some o =>
  cases o with
  | cells c t f => rw [h.2 _ c t f hb hne]; simpa [hb] using hp
  | _ => simp [hb] at hp

def encS (x : Int × (Int × Int)) : Array Value := #[.int .i64 x.1, .agg #[.int .i64 x.2.1, .int .i64 x.2.2]]
def seqP (ps : List (Int × Int)) (k : Nat) : List (Int × (Int × Int)) := (List.range k).map fun i => (sumW (ps.take i), ps.getD i (0, 0))
theorem seqP_succ (ps : List (Int × Int)) (k : Nat) : seqP ps (k+1) = seqP ps k ++ [(sumW (ps.take k), ps.getD k (0, 0))] := by simp [seqP, List.range_succ]
theorem seqP_len (ps : List (Int × Int)) (k : Nat) : (seqP ps k).length = k := by simp [seqP]

set_option maxHeartbeats 1000000 in
theorem parts_mk (a : Option Addr) (n cap : Nat) (w : World) (F : Fence) (m : Nat) (hF : F.fn 328) (hro : F.round = none) :
  CallsIn F m Tryz.prog 328 #[.slice a n cap] w fun e w' => e = .returned (.func (.func 402) #[] #[.pointer (some ⟨w.heap.size, 0, none⟩)]) ∧ w' = w.alloc (.cells #[.slice a n cap] 49) := by
 refine callsIn_of_wp Tryz.func328 rfl hF ?_ hro
 simp only [Tryz.ntmps328, List.size_toArray, List.length_cons, List.length_nil, Nat.reduceAdd, Nat.reduceSub, Array.replicate_succ, Array.replicate_zero, List.push_toArray, List.append_toArray, List.nil_append, List.cons_append]
 gi_wp2
 go_ret
 exact ⟨rfl, rfl⟩

set_option maxRecDepth 100000 in
set_option maxHeartbeats 2000000 in
theorem parts_round (F : Fence) (n : Nat) (hF : F.fn 402) (hro : F.round = none) (hn : 1 ≤ n) (l Bs B0 : Nat) (a : Option Addr) (cap : Nat) (ps : List (Int × Int)) (hb : SumFits ps)
  (J Jx : List (Int × (Int × Int)) → World → Prop) (W : World) (hB0 : B0 < W.heap.size) (hJ : AbidesFrom W.heap.size J)
  (hs : ∀ W', KpC B0 W W' → Parts W' (.slice a ps.length cap) ps)
  (hY : ∀ pre x W1, J pre W1 → pre.length < ps.length → YieldAt F (n - 1) Tryz.prog l (encS x) W1 fun e W' =>
   (e = .returned (.bool true) ∧ J (pre ++ [x]) W' ∧ KpC B0 W1 W') ∨ (e = .returned (.bool false) ∧ Jx (pre ++ [x]) W'))
  (hBs : W.cell? ⟨Bs, 0, none⟩ = some (.slice a ps.length cap)) (h0 : J [] W) :
  CallsIn F n Tryz.prog 402 #[.func (.yield l) #[] #[], .pointer (some ⟨Bs, 0, none⟩)] W fun e W' => (∃ v, e = .returned v) ∧
   ((∃ ys, ys = seqP ps ps.length ∧ J ys W') ∨ (∃ pre, (∃ k, k ≤ ps.length ∧ pre = seqP ps k) ∧ Jx pre W')) := by
 have hl' : (ps.length : Int) ≤ 9223372036854775807 := ((hs W (KpC.refl _ _)).shape).1
 have HS := hide hs; clear hs
 have HB := hide hb; clear hb
 refine callsIn_of_wp Tryz.func402 rfl hF ?_ hro
 simp only [Tryz.ntmps402, List.size_toArray, List.length_cons, List.length_nil, Nat.reduceAdd, Nat.reduceSub, Array.replicate_succ, Array.replicate_zero, List.push_toArray, List.append_toArray, List.nil_append, List.cons_append]
 gi_wp2
 gi_loopw [3, 8] (fun s i wr => ∃ k : Nat, k ≤ ps.length ∧ i = .int .i64 k ∧ s = .int .i64 (sumW (ps.take k)) ∧ J (seqP ps k) wr ∧ KpC B0 W wr)
  (fun _ i _ => ps.length - (intOf i).toNat)
 case atStart => exact ⟨0, Nat.zero_le _, rfl, rfl, h0, KpC.refl _ _⟩
 case round =>
  obtain ⟨k, hk, rfl, rfl, hJs, hnx⟩ := hrel
  by_cases hlt : k < ps.length
  ·obtain ⟨b, off, rfl, hbb, c0, c1⟩ := parts_at (HS.out wr hnx) k hlt
   have hsum := sumW_snoc ps k hlt
   have b1 := HB.out k hk
   have b2 := HB.out (k+1) hlt
   rw [hsum] at b2
   have HSS := hide hsum
   clear hsum
   have hJ1 : J (seqP ps k) (wr.alloc (.cells #[.int .i64 ps[k].1, .int .i64 ps[k].2] 60)) := hJ _ _ _ none hJs (World.grownBy_alloc _ _ _) (fun r e => by cases e)
   obtain ⟨fn, tmps, assign, body, hy, hR⟩ := hY _ (sumW (ps.take k), ps[k]) _ hJ1 (by rw [seqP_len]; exact hlt)
   simp only [encS] at hy
   have hsz := hnx.1
   gi_wp2
   refine hR.mono ?_
   rintro e W3 (⟨rfl, hJ3, hk3⟩ | ⟨rfl, hJx3⟩)
   ·have cw : W3.cell? ⟨wr.heap.size, 1, none⟩ = some (.int .i64 ps[k].2) := hk3.cell (p := ⟨wr.heap.size, 1, none⟩) (by simp) (by simp; omega)
    gi_wp2
    go_roundw
    case rel => exact ⟨k + 1, by omega, by go_num, by rw [HSS.out], by rw [seqP_succ]; simpa [hlt] using hJ3, (hnx.trans (KpC.alloc _ _ _)).trans hk3⟩
    case measure => simp [intOf]; omega
   ·gi_wp2
    refine bodyPost_ret (results_none rfl _ _ _) rfl ?_
    exact ⟨⟨_, rfl⟩, .inr ⟨_, ⟨k + 1, by omega, by rw [seqP_succ]; simp [hlt]⟩, hJx3⟩⟩
  ·obtain rfl : k = ps.length := by omega
   gi_wp2
   go_end0
   exact ⟨⟨_, rfl⟩, .inl ⟨_, rfl, hJs⟩⟩

theorem parts_stops (F : Fence) (n : Nat) (hF : F.fn 402) (hro : F.round = none) (hn : 1 ≤ n) (Bs B0 : Nat) (a : Option Addr) (cap : Nat) (ps : List (Int × Int)) (hb : SumFits ps) (w : World) (hB0 : B0 < w.heap.size)
  (hBs : w.cell? ⟨Bs, 0, none⟩ = some (.slice a ps.length cap)) (hBsl : Bs < w.heap.size)
  (hs : ∀ W W', Below w.heap.size w W → KpC B0 W W' → Parts W' (.slice a ps.length cap) ps) :
  SeqStopsK F n Tryz.prog 402 #[.pointer (some ⟨Bs, 0, none⟩)] encS (KpC B0) (fun ys => ys = seqP ps ps.length) (fun pre => ∃ k, k ≤ ps.length ∧ pre = seqP ps k) ps.length w :=
 fun l J Jx W hW hJ _ hY h0 =>
  parts_round F n hF hro hn l Bs B0 a cap ps hb J Jx W (Nat.lt_of_lt_of_le hB0 hW.size) hJ (fun W' h => hs W W' hW h) hY ((hW.cell (p := ⟨Bs, 0, none⟩) hBsl).trans hBs) h0

/-- parts read in a world read behind it, where only B0 of the cells has turned -/
theorem Parts.kpc {B0 : Nat} {W W' : World} {v : Value} {ps : List (Int × Int)} (h : Parts W v ps) (k : KpC B0 W W') (hlt : ∀ a n c, v = .slice (some a) n c → ps ≠ [] → a.block ≠ B0) : Parts W' v ps := by
 obtain ⟨h1, a, cap, h2, hcap, h3⟩ := h
 refine ⟨h1, a, cap, h2, hcap, fun i x hi => ?_⟩
 obtain ⟨b, off, ha, hb, hc⟩ := h3 i x hi
 refine ⟨b, off, ha, Nat.lt_of_lt_of_le hb k.1, fun j u hu => k.cell (hc j u hu) ?_⟩
 have hne : ps ≠ [] := fun e => by subst e; simp at hi
 have := hlt ⟨b, off, none⟩ _ _ (by rw [h2, ha]) hne
 exact this
/-- a block of cells stands where no block of cells has turned -/
theorem cells_kept {X Y : World} {row : Option Nat} (hg : X.grownBy Y row) (hr : ∀ r, row = some r → ∃ o : Obj, X.heap[r]? = some o ∧ o.isCells = false) {k : Nat} {c : Array Value} {t : TypeId} {f : Nat × Nat} (h : X.heap[k]? = some (.cells c t f)) : Y.heap[k]? = some (.cells c t f) :=
 (hg.block k (Array.getElem?_eq_some_iff.1 h).1 (fun e => by obtain ⟨o, ho, hc⟩ := hr k e.symm; rw [h] at ho; cases ho; cases hc)).trans h

def lastS (pre : List (Int × (Int × Int))) : Int := (pre.getLast?).elim 0 (fun x => wrap64 (x.1 + x.2.2))
theorem lastS_snoc (pre : List (Int × (Int × Int))) (x) : lastS (pre ++ [x]) = wrap64 (x.1 + x.2.2) := by simp [lastS]
theorem lastS_all (ps : List (Int × Int)) (hb : SumFits ps) : lastS (seqP ps ps.length) = sumW ps := by
 cases hl : ps.length with
 | zero => rw [List.eq_nil_of_length_eq_zero hl]; rfl
 | succ k =>
  rw [seqP_succ, lastS_snoc]
  have hk : k < ps.length := by omega
  have h1 := sumW_snoc ps k hk
  rw [List.take_of_length_le (by omega)] at h1
  have h2 := hb ps.length (Nat.le_refl _)
  rw [List.take_length] at h2
  have h3 : (ps.getD k (0, 0)) = ps[k] := by simp [hk]
  rw [h3, ← h1]
  exact IntWalk.wrap64_in _ ⟨by omega, by omega⟩

set_option maxRecDepth 100000 in
set_option maxHeartbeats 2000000 in
theorem sum_in (ps : List (Int × Int)) (v : Value) (w : World) (hs : Parts w v ps) (hb : SumFits ps) :
  CallsIn Fence.wide 9 Tryz.prog 320 #[v] w fun e w' => e = .returned (.int .i64 (sumW ps)) ∧ Ext w w' := by
 obtain ⟨hl', a, cap, rfl⟩ := hs.shape
 have hblk : ∀ a' n c, Value.slice a ps.length cap = .slice (some a') n c → 0 < ps.length → a'.block < w.heap.size := by
  intro a' n c e hp
  obtain ⟨b, off, ha, hb, _⟩ := parts_at hs 0 hp
  cases e; cases ha; exact hb
 have HK := hide hblk; clear hblk
 have HC := hide hs; clear hs
 have HB := hide hb; clear hb
 refine callsIn_of_wp_marks Tryz.func320 rfl trivial ?_ rfl
 simp only [Tryz.ntmps320, List.size_toArray, List.length_cons, List.length_nil, Nat.reduceAdd, Nat.reduceSub, Array.replicate_succ, Array.replicate_zero, List.push_toArray, List.append_toArray, List.nil_append, List.cons_append]
 gi_wp2_with (refine ⟨trivial, ?_⟩; gi_at_call 328; refine (parts_mk _ _ _ _ _ _ trivial rfl).mono ?_; rintro e w' ⟨rfl, rfl⟩)
 have bS := (Boxed.new w 3 (.int .i64 0)).alloc (.cells #[.slice a ps.length cap] 49)
 have bA := Boxed.new (w.alloc (.cells #[.int .i64 0] 3)) 49 (.slice a ps.length cap)
 simp only [World.size_alloc] at bA
 have hB0 : Below w.heap.size w ((w.alloc (.cells #[.int .i64 0] 3)).alloc (.cells #[.slice a ps.length cap] 49)) := ((Below.refl _ w).alloc (Nat.le_refl _) _).alloc (by simp) _
 have hsz : ((w.alloc (.cells #[.int .i64 0] 3)).alloc (.cells #[.slice a ps.length cap] 49)).heap.size = w.heap.size + 2 := by simp
 obtain ⟨W0, hW0⟩ : ∃ W0, (w.alloc (.cells #[.int .i64 0] 3)).alloc (.cells #[.slice a ps.length cap] 49) = W0 := ⟨_, rfl⟩
 rw [hW0] at bS bA hB0 hsz ⊢
 clear hW0
 refine wpIn_rangeFunc_ownH rfl (by decide) (gf := 402) (lb := #[.pointer (some ⟨w.heap.size + 1, 0, none⟩)]) rfl trivial (enters_of Tryz.func402 (by kernel_rfl) rfl)
  (parts_stops Fence.wide _ trivial rfl (by decide) (w.heap.size + 1) w.heap.size a cap ps HB.out W0 (by omega) bA.cell (by omega)
   (fun W W' hW hk => Parts.kpc ((HC.out.ext hB0).ext hW) hk (fun a' n c e hne => by
    have := HK.out a' n c e (List.length_pos_iff.2 hne); omega)))
  KpC.trans (fun W l o o' _ hl ho _ => KpC.putObj _ hl ho) (Below.refl _ _) (fun _ => rfl)
  (fun pre W => Boxed W w.heap.size 3 (.int .i64 (lastS pre)) ∧ Below w.heap.size w W)
  (fun _ _ _ => False)
  (OwnFrom.and (Own.from (boxed_own _ _ _) _) (ownFrom_below (Nat.le_refl _) (by omega)))
  (fun _ _ _ _ _ hs _ _ => hs)
  ⟨bS, hB0⟩
  (fun x a' W => ∃ Bx, w.heap.size < Bx ∧ W.heap[Bx]? = some (.cells #[.int .i64 x.2.1, .int .i64 x.2.2] 60 (0, 0)) ∧ a' = { tmps := #[.slice a ps.length cap, undef, .int .i64 0, .pointer (some ⟨w.heap.size, 0, none⟩), .int .i64 x.1, .pointer (some ⟨Bx, 0, none⟩), .slice a ps.length cap, .func (.func 402) #[] #[.pointer (some ⟨w.heap.size + 1, 0, none⟩)], .int .i64 x.1, .agg #[.int .i64 x.2.1, .int .i64 x.2.2], undef, undef, undef, undef, undef], defers := [] })
  (fun x a' _ X Y row hs hg hr => by
   obtain ⟨Bx, h1, h2, h3⟩ := hs
   exact ⟨Bx, h1, cells_kept hg (fun r e => (hr r e).2) h2, h3⟩)
  ?assign ?body ?done ?stop
 case assign =>
  rintro l pre x W K ⟨bS1, hB1⟩ hK
  have hsW := hB1.size
  unfold encS
  gi_wp2
  refine hK _ _ ((KeepsOthers.alloc _ _).from _) (KpC.alloc _ _ _) ⟨bS1.alloc _, hB1.alloc hB1.size _⟩ ⟨W.heap.size, bS1.lt, ?_, rfl⟩
  exact World.alloc_heap_new W _
 case body =>
  rintro l pre x a' W hl ⟨r, hr⟩ ⟨bS1, hB1⟩ ⟨Bx, hBx, bX, rfl⟩ hlt
  have cS := bS1.cell
  have fS := bS1.frozen
  have cX : W.cell? ⟨Bx, 1, none⟩ = some (.int .i64 x.2.2) := by simp [World.cell?, bX]
  gi_wp2
  exact ⟨(KeepsOthers.setCell _ _ _).from _, KpC.setCell _ _ _ _, by rw [lastS_snoc]; exact bS1.set _, hB1.setCell (p := ⟨w.heap.size, 0, none⟩) (Nat.le_refl _) _⟩
 case done =>
  rintro D ys W hD rfl ⟨bS1, hB1⟩ hK
  have cS := bS1.cell
  gi_wp2
  refine ⟨by simp, .inl ⟨_, _, rfl, run_takeDeferred hK, ?_⟩⟩
  exact ⟨_, results_tmp rfl _ _ _, (by show Ending.returned (.int .i64 (lastS (seqP ps ps.length))) = _; rw [lastS_all ps HB.out]), hB1.trans (belowK_b (w := w) (Nat.le_refl _) W D _ _ (by omega) hK rfl rfl)⟩
 case stop =>
  rintro D c pre W _ _ h _
  exact h.elim
theorem sum_any (ps : List (Int × Int)) (v : Value) (w : World) (hs : Parts w v ps) (hb : SumFits ps) :
  Calls Tryz.prog 320 #[v] w fun e w' => e = .returned (.int .i64 (sumW ps)) ∧ Ext w w' := callsIn_wide.1 (sum_in ps v w hs hb)
end Go.Proofs.YtmpciohmljpncaaGreatDoor.Sp

/- split.Pick. -/
namespace Go.Proofs.YtmpciohmljpncaaGreatDoor.Sp
open Go.RowKit Go.Shelf
attribute [local go_sem] Oper.semAt_some

theorem pickR_skip (ps : List (Int × Int)) (r : Int) (k : Nat) (hk : k ≤ ps.length) (h : ∀ i (hi : i < ps.length), i < k → ¬ r < sumW (ps.take i) + ps[i].2) : pickR ps r = pickR (ps.drop k) (r - sumW (ps.take k)) := by
 induction k with
 | zero => simp [sumW]
 | succ k ih =>
  have hlt : k < ps.length := by omega
  rw [ih (by omega) (fun i hi hik => h i hi (by omega)), pickR_drop ps k hlt, if_neg (by have := h k hlt (by omega); omega), sumW_snoc ps k hlt]
  congr 1; omega
theorem seqP_mem (ps : List (Int × Int)) (k : Nat) (_hk : k ≤ ps.length) (i : Nat) (hi : i < ps.length) (hik : i < k) : (sumW (ps.take i), ps[i]) ∈ seqP ps k := by
 simp only [seqP, List.mem_map, List.mem_range]
 exact ⟨i, hik, by simp [hi]⟩
def overR (r : Int) (x : Int × (Int × Int)) : Prop := r < wrap64 (x.1 + x.2.2)
theorem overR_iff (ps : List (Int × Int)) (hb : SumFits ps) (r : Int) (i : Nat) (hi : i < ps.length) : overR r (sumW (ps.take i), ps[i]) ↔ r < sumW (ps.take i) + ps[i].2 := by
 have h := hb (i+1) hi
 rw [sumW_snoc ps i hi] at h
 show r < wrap64 (sumW (ps.take i) + ps[i].2) ↔ _
 rw [IntWalk.wrap64_in _ ⟨by omega, by omega⟩]
theorem pick_none (ps : List (Int × Int)) (hb : SumFits ps) (r : Int) (h : ∀ x ∈ seqP ps ps.length, ¬ overR r x) : pickR ps r = 0 := by
 rw [pickR_skip ps r ps.length (Nat.le_refl _) (fun i hi _ => by rw [← overR_iff ps hb r i hi]; exact h _ (seqP_mem ps _ (Nat.le_refl _) i hi hi)), List.drop_length]; rfl
theorem pick_hit (ps : List (Int × Int)) (hb : SumFits ps) (r : Int) (k : Nat) (hk : k ≤ ps.length) (p : List (Int × (Int × Int))) (x : Int × (Int × Int)) (he : p ++ [x] = seqP ps k) (h : ∀ y ∈ p, ¬ overR r y) (hx : overR r x) : pickR ps r = x.2.1 := by
 cases k with
 | zero => simp [seqP] at he
 | succ k =>
  have hlt : k < ps.length := by omega
  rw [seqP_succ] at he
  obtain ⟨rfl, e2⟩ := List.append_inj' he rfl
  simp [hlt] at e2
  subst e2
  rw [pickR_skip ps r k (by omega) (fun i hi hik => by rw [← overR_iff ps hb r i hi]; exact h _ (seqP_mem ps _ (by omega) i hi hik)), pickR_drop ps k hlt]
  rw [overR_iff ps hb r k hlt] at hx
  rw [if_pos (by omega)]

set_option maxRecDepth 100000 in
set_option maxHeartbeats 4000000 in
theorem pick_in (ps : List (Int × Int)) (v : Value) (d : Int) (w : World) (hs : Parts w v ps) (hb : SumFits ps) (hd : U64 d) :
  CallsIn Fence.wide 9 Tryz.prog 244 #[v, .int .u64 d] w fun e w' => e = .returned (.int .i64 (pick ps d)) ∧ Ext w w' := by
 unfold U64 at hd
 have hS := hb ps.length (Nat.le_refl _)
 rw [List.take_length] at hS
 obtain ⟨hl', a, cap, rfl⟩ := hs.shape
 have hblk : ∀ a' n c, Value.slice a ps.length cap = .slice (some a') n c → 0 < ps.length → a'.block < w.heap.size := by
  intro a' n c e hp
  obtain ⟨b, off, ha, hb, _⟩ := parts_at hs 0 hp
  cases e; cases ha; exact hb
 have HK := hide hblk; clear hblk
 have HC := hide hs; clear hs
 have HB := hide hb; clear hb
 have e0 : Ext w (w.alloc (.cells #[.int .i64 0] 3)) := (Below.refl _ w).alloc (Nat.le_refl _) _
 have eR : ∀ w1 : World, Ext (w.alloc (.cells #[.int .i64 0] 3)) w1 → Boxed w1 w.heap.size 3 (.int .i64 0) := fun w1 h =>
  (h.block w.heap.size (by simp)).trans (Boxed.new w 3 (.int .i64 0))
 have hsum : ∀ R, (∀ w1, Ext (w.alloc (.cells #[.int .i64 0] 3)) w1 → R (.returned (.int .i64 (sumW ps))) w1) → CallsIn Fence.wide 8 Tryz.prog 320 #[.slice a ps.length cap] (w.alloc (.cells #[.int .i64 0] 3)) R :=
  fun R h => (callsIn_wide.2 (sum_any ps _ _ (HC.out.ext e0) HB.out)).mono (by rintro e w1 ⟨rfl, h1⟩; exact h w1 h1)
 have HSUM := hide hsum; clear hsum
 have HER := hide eR; clear eR
 refine callsIn_of_wp_marks Tryz.func244 rfl trivial ?_ rfl
 simp only [Tryz.ntmps244, List.size_toArray, List.length_cons, List.length_nil, Nat.reduceAdd, Nat.reduceSub, Array.replicate_succ, Array.replicate_zero, List.push_toArray, List.append_toArray, List.nil_append, List.cons_append]
 by_cases h1 : sumW ps < 1
 ·gi_wp2_with fail
  refine ⟨trivial, HSUM.out _ ?_⟩
  intro w1 hE
  have bR := HER.out w1 hE
  have cR := bR.cell
  have fR := bR.frozen
  gi_wp2
  have cR' := (bR.set (.int .i64 0)).cell
  exact ⟨.int .i64 0, by simp [results, Tryz.results244, go_sem, cR'], ret_int (by rw [pick, if_pos h1]), (e0.trans hE).setCell (p := ⟨w.heap.size, 0, none⟩) (Nat.le_refl _) _⟩
 ·have h1' : 1 ≤ sumW ps := by omega
  have hm : (sumW ps) % 18446744073709551616 = sumW ps := Int.emod_eq_of_lt (by omega) (by omega)
  have hr0 : 0 ≤ d % sumW ps := Int.emod_nonneg _ (by omega)
  have hr1 : d % sumW ps < sumW ps := Int.emod_lt_of_pos _ (by omega)
  gi_wp2_with fail
  refine ⟨trivial, HSUM.out _ ?_⟩
  intro w1 hE
  have bR := HER.out w1 hE
  have cR := bR.cell
  have fR := bR.frozen
  gi_wp2_with (refine ⟨trivial, ?_⟩; gi_at_call 328; refine (parts_mk _ _ _ _ _ _ trivial rfl).mono ?_; rintro e w' ⟨rfl, rfl⟩)
  have hEw := e0.trans hE
  have hw1 := hEw.size
  have bRb := (bR.alloc (.cells #[.int .i64 (d % sumW ps)] 3)).alloc (.cells #[.slice a ps.length cap] 49)
  have bT := (Boxed.new w1 3 (.int .i64 (d % sumW ps))).alloc (.cells #[.slice a ps.length cap] 49)
  have bA := Boxed.new (w1.alloc (.cells #[.int .i64 (d % sumW ps)] 3)) 49 (.slice a ps.length cap)
  simp only [World.size_alloc] at bA
  have hB0 : Below w.heap.size w ((w1.alloc (.cells #[.int .i64 (d % sumW ps)] 3)).alloc (.cells #[.slice a ps.length cap] 49)) := (hEw.alloc hw1 _).alloc (by simp; omega) _
  have hsz : ((w1.alloc (.cells #[.int .i64 (d % sumW ps)] 3)).alloc (.cells #[.slice a ps.length cap] 49)).heap.size = w1.heap.size + 2 := by simp
  have hRlt := bR.lt
  obtain ⟨W0, hW0⟩ : ∃ W0, (w1.alloc (.cells #[.int .i64 (d % sumW ps)] 3)).alloc (.cells #[.slice a ps.length cap] 49) = W0 := ⟨_, rfl⟩
  rw [hW0] at bRb bT bA hB0 hsz ⊢
  clear hW0 cR fR bR hm
  have hfin : pick ps d = pickR ps (d % sumW ps) := by rw [pick, if_neg (by omega)]
  have HF := hide hfin; clear hfin
  refine wpIn_rangeFunc_ownH rfl (by decide) (gf := 402) (lb := #[.pointer (some ⟨w1.heap.size + 1, 0, none⟩)]) rfl trivial (enters_of Tryz.func402 (by kernel_rfl) rfl)
   (parts_stops Fence.wide _ trivial rfl (by decide) (w1.heap.size + 1) w.heap.size a cap ps HB.out W0 (by omega) bA.cell (by omega)
    (fun W W' hW hk => Parts.kpc ((HC.out.ext hB0).ext hW) hk (fun a' n c e hne => by
     have := HK.out a' n c e (List.length_pos_iff.2 hne); omega)))
   KpC.trans (fun W l o o' _ hl ho _ => KpC.putObj _ hl ho) (Below.refl _ _) (fun _ => rfl)
   (fun pre W => ((Boxed W w.heap.size 3 (.int .i64 0) ∧ Boxed W w1.heap.size 3 (.int .i64 (d % sumW ps))) ∧ Below w.heap.size w W) ∧ ∀ x ∈ pre, ¬ overR (d % sumW ps) x)
   (fun c pre W => ((∃ p x, c = .ret ∧ pre = p ++ [x] ∧ (∀ y ∈ p, ¬ overR (d % sumW ps) y) ∧ overR (d % sumW ps) x ∧ Boxed W w.heap.size 3 (.int .i64 x.2.1))) ∧ Below w.heap.size w W)
   (OwnFrom.and (OwnFrom.and (OwnFrom.and (Own.from (boxed_own _ _ _) _) (Own.from (boxed_own _ _ _) _)) (ownFrom_below (Nat.le_refl _) (by omega))) (fun _ _ _ _ hs _ _ => hs))
   (fun c => OwnFrom.and (fun s X Y row hs hg hr => by
    obtain ⟨p, x, h1, h2, h3, h4, h5⟩ := hs
    exact ⟨p, x, h1, h2, h3, h4, cells_kept hg (fun r e => (hr r e).2) h5⟩) (ownFrom_below (Nat.le_refl _) (by omega)))
   ⟨⟨⟨bRb, bT⟩, hB0⟩, fun x hx => by simp at hx⟩
   (fun x a' W => ∃ Bx, w1.heap.size < Bx ∧ W.heap[Bx]? = some (.cells #[.int .i64 x.2.1, .int .i64 x.2.2] 60 (0, 0)) ∧ a' = { tmps := #[.slice a ps.length cap, .int .u64 d, undef, undef, .pointer (some ⟨w.heap.size, 0, none⟩), .int .i64 (sumW ps), .pointer (some ⟨w1.heap.size, 0, none⟩), .int .i64 x.1, .pointer (some ⟨Bx, 0, none⟩), .slice a ps.length cap, .int .i64 (sumW ps), .int .i64 (sumW ps), .bool (decide (sumW ps < 1)), .int .u64 d, .int .i64 (sumW ps), .int .u64 (sumW ps), .int .u64 (d % sumW ps), .int .i64 (d % sumW ps), .slice a ps.length cap, .func (.func 402) #[] #[.pointer (some ⟨w1.heap.size + 1, 0, none⟩)], .int .i64 x.1, .agg #[.int .i64 x.2.1, .int .i64 x.2.2], undef, undef, undef, undef, undef, undef, undef, undef], defers := [] })
   (fun x a' _ X Y row hs hg hr => by
    obtain ⟨Bx, h1, h2, h3⟩ := hs
    exact ⟨Bx, h1, cells_kept hg (fun r e => (hr r e).2) h2, h3⟩)
   ?assign ?body ?done ?stop
  case assign =>
   rintro l pre x W K ⟨⟨⟨bS1, bT1⟩, hB1⟩, hno⟩ hK
   have hsW := hB1.size
   unfold encS
   gi_wp2
   refine hK _ _ ((KeepsOthers.alloc _ _).from _) (KpC.alloc _ _ _) ⟨⟨⟨bS1.alloc _, bT1.alloc _⟩, hB1.alloc hB1.size _⟩, hno⟩ ⟨W.heap.size, bT1.lt, ?_, rfl⟩
   exact World.alloc_heap_new W _
  case body =>
   rintro l pre x a' W hl ⟨r, hr⟩ ⟨⟨⟨bS1, bT1⟩, hB1⟩, hno⟩ ⟨Bx, hBx, bX, rfl⟩ hlt
   have cS := bS1.cell
   have fS := bS1.frozen
   have cT := bT1.cell
   have cX0 : W.cell? ⟨Bx, 0, none⟩ = some (.int .i64 x.2.1) := by simp [World.cell?, bX]
   have cX : W.cell? ⟨Bx, 1, none⟩ = some (.int .i64 x.2.2) := by simp [World.cell?, bX]
   have HNO := hide hno; clear hno
   by_cases hov : d % sumW ps < wrap64 (x.1 + x.2.2)
   ·have HO := hide hov
    gi_wp2
    exact ⟨(KeepsOthers.setCell _ _ _).from _, ⟨⟨pre, x, rfl, rfl, HNO.out, HO.out, bS1.set _⟩, hB1.setCell (p := ⟨w.heap.size, 0, none⟩) (Nat.le_refl _) _⟩⟩
   ·have HO := hide hov
    have hall : ∀ y ∈ pre ++ [x], ¬ overR (d % sumW ps) y := by
     intro y hy
     rcases List.mem_append.1 hy with h | h
     ·exact HNO.out y h
     ·rw [List.mem_singleton.1 h]; exact HO.out
    have HALL := hide hall; clear hall
    gi_wp2
    exact ⟨KeepsFrom.refl _ _, KpC.refl _ _, ⟨⟨⟨bS1, bT1⟩, hB1⟩, by have := HALL.out; simpa using this⟩⟩
  case done =>
   rintro D ys W hD rfl ⟨⟨⟨bS1, bT1⟩, hB1⟩, hno⟩ hK
   have cS := bS1.cell
   have fS := bS1.frozen
   have HNO := hide hno; clear hno
   gi_wp2
   have hK2 : (W.setCell ⟨w.heap.size, 0, none⟩ (.int .i64 0)).heap[D]? = some (.deferred (some [])) := (Below.heap_setCell W _ _ D (by simp; omega)).trans hK
   have b2 := bS1.set (.int .i64 0)
   have c2 : ((W.setCell ⟨w.heap.size, 0, none⟩ (.int .i64 0)).putObj D (.deferred none)).cell? ⟨w.heap.size, 0, none⟩ = some (.int .i64 0) := (World.cell?_of_block (World.putObj_heap_other (k := w.heap.size) (by omega))).trans b2.cell
   refine ⟨by simp, .inl ⟨_, _, rfl, run_takeDeferred hK2, ?_⟩⟩
   exact ⟨.int .i64 0, by simp [results, Tryz.results244, go_sem, c2], ret_int (by rw [HF.out, pick_none ps HB.out _ HNO.out]),
    (hB1.setCell (p := ⟨w.heap.size, 0, none⟩) (Nat.le_refl _) _).trans (belowK_b (w := w) (Nat.le_refl _) _ D _ _ (by omega) hK2 rfl rfl)⟩
  case stop =>
   rintro D c pre W hD ⟨k, hk, rfl⟩ ⟨⟨p, x, rfl, hp, h3, h4, b2⟩, hB1⟩ hK
   gi_wp2
   have c2 : (W.putObj D (.deferred none)).cell? ⟨w.heap.size, 0, none⟩ = some (.int .i64 x.2.1) := (World.cell?_of_block (World.putObj_heap_other (k := w.heap.size) (by omega))).trans b2.cell
   refine ⟨by simp, .inl ⟨_, _, rfl, run_takeDeferred hK, ?_⟩⟩
   exact ⟨.int .i64 x.2.1, by simp [results, Tryz.results244, go_sem, c2], ret_int (by rw [HF.out, pick_hit ps HB.out _ k hk p x hp.symm h3 h4]),
    hB1.trans (belowK_b (w := w) (Nat.le_refl _) _ D _ _ (by omega) hK rfl rfl)⟩
theorem pick_any (ps : List (Int × Int)) (v : Value) (d : Int) (w : World) (hs : Parts w v ps) (hb : SumFits ps) (hd : U64 d) :
  Calls Tryz.prog 244 #[v, .int .u64 d] w fun e w' => e = .returned (.int .i64 (pick ps d)) ∧ Ext w w' := callsIn_wide.1 (pick_in ps v d w hs hb hd)
end Go.Proofs.YtmpciohmljpncaaGreatDoor.Sp

/- split.Check, split.Each. -/
namespace Go.Proofs.YtmpciohmljpncaaGreatDoor.Sp
open Go.ChangeShapes Go.WideShapes Go.ChangeAt Go.RowKit

def checkGo : List (Int × Int) → List Int → Int
 | [], _ => 0
 | p :: l, seen => if p.1 < 1 ∨ 10 < p.1 ∨ p.1 ∈ seen then 13 else if p.2 < 0 ∨ 100 < p.2 then 12 else checkGo l (seen ++ [p.1])
def check (ps : List (Int × Int)) : Int := if checkGo ps [] ≠ 0 then checkGo ps [] else if sumW ps = 0 then 12 else 0
end Go.Proofs.YtmpciohmljpncaaGreatDoor.Sp

/- The reference's Check of parts. -/
namespace Go.Proofs.YtmpciohmljpncaaGreatDoor.Sp
open Go.ChangeShapes Go.WideShapes Go.ChangeAt Go.RowKit
end Go.Proofs.YtmpciohmljpncaaGreatDoor.Sp
