/- Merged texts (MpR, GkM, GkE, GkF). -/
import Derived.Maps.RangeWalk
import Derived.Test.YtmpciohmljpncaaGreatDoorZcb
import Derived.Shelf.Bits.Mul64
import Derived.Test.YtmpciohmljpncaaGreatDoorGkD
import Derived.Test.YtmpciohmljpncaaGreatDoorZrw
namespace Go.Proofs.YtmpciohmljpncaaGreatDoor
open Go.ChangeShapes Go.WideShapes Go.ChangeAt Go.RowKit Go.Lib Go.Shelf Go.Maps
/-- block r is under way over the map of block b; lf tells which keys are still to come -/
def MapR {α : Type} (mk : α → Lit) (w : World) (k : TypeId) (b r n : Nat) (f : α → Option Value) (lf : α → Bool) (cnt : Nat) : Prop :=
 ∃ (D : DataW Value) (left : Lit → Bool), w.ranges Tryz.prog k heldR b r n D left cnt ∧ (∀ x z, D.atKey (mk x) (.held z) = .held ((f x).getD z)) ∧ (∀ x, Maps.has D (mk x) = (f x).isSome) ∧ ∀ x, left (mk x) = lf x
section
variable {α : Type} {mk : α → Lit} {w : World} {k : TypeId} {b r n cnt : Nat} {f : α → Option Value} {lf : α → Bool}
theorem MapR.map (h : MapR mk w k b r n f lf cnt) : MapV mk w k b n f := by
 obtain ⟨D, left, h1, h2, h3, -⟩ := h
 exact ⟨D, h1.owns, h2, h3⟩
theorem MapR.left_eq (h : MapR mk w k b r n f lf cnt) : w.rangeLeft b r = cnt := by
 obtain ⟨D, left, h1, -⟩ := h
 exact h1.left_eq
theorem MapR.lt (h : MapR mk w k b r n f lf cnt) : r < w.heap.size := by
 obtain ⟨D, left, h1, -⟩ := h
 exact h1.lt
theorem MapR.kept {w' : World} {row : Option Nat} (h : MapR mk w k b r n f lf cnt) (hg : w.grownBy w' row) (hb : some b ≠ row) (hr : some r ≠ row) : MapR mk w' k b r n f lf cnt := by
 obtain ⟨D, left, h1, h2⟩ := h
 exact ⟨D, left, h1.kept hg hb hr, h2⟩
theorem MapR.ext {w' : World} (h : MapR mk w k b r n f lf cnt) (e : Ext w w') : MapR mk w' k b r n f lf cnt := h.kept (row := none) ⟨e.os, e.tape, e.output, e.size, fun i hi _ => e.block i hi⟩ (by simp) (by simp)
end
section
variable {α : Type} {mk : α → Lit} {k : TypeId} {b n : Nat} {f : α → Option Value} (w : World) {ops : Array Oper} {rest : List Oper} {o : Oper} {a : Act} {Q : Exit → Act → World → Prop}
theorem wpList_mr_range (hg : o.guard = none) (m : Operand) (t : TypeId) (hop : o.op = Op.range t m) {e : TypeId} (h : MapV mk w k b n f) (K : Keyed Tryz.prog k) (ht : Tryz.prog.underlying t = some (.map k e)) (hm : a.eval m = .map (some b))
  (hK : ∀ w' cnt, MapR mk w' k b w.heap.size n f (fun x => (f x).isSome) cnt → w.grownBy w' none → w'.heap.size = w.heap.size + 1 → wpList Tryz.prog ops Q rest (a.put o.dst (.pointer (some ⟨w.heap.size, 0, none⟩))) w') : wpList Tryz.prog ops Q (o :: rest) a w := by
 obtain ⟨D, h1, h2, h3⟩ := h
 exact wpList_range_own w hg m t hop k e K ht heldR b n D hm h1 fun w' r1 r2 r3 => hK w' _ ⟨D, _, r1, h2, h3, h3⟩ r2 r3
theorem i64_wf {x : Int} (h : (Lit.int .i64 x).wf = true) : I64 x := by
 simp only [Lit.wf, Bool.and_eq_true, decide_eq_true_eq] at h
 exact h
theorem sameKey_int (x y : Int) : (Lit.int .i64 y).sameKey (Lit.int .i64 x) = decide (y = x) := by
 rw [Bool.eq_iff_iff]
 simp [Lit.sameKey]
theorem wpList_mr_next {r cnt : Nat} {f : Int → Option Value} {lf : Int → Bool} (hg : o.guard = none) (it : Operand) (hop : o.op = Op.next it false) (h : MapR (Lit.int .i64) w 3 b r n f lf cnt) (hit : a.eval it = .pointer (some ⟨r, 0, none⟩))
  (hDone : cnt = 0 → (∀ x, I64 x → lf x = false) → wpList Tryz.prog ops Q rest (a.put o.dst (.tuple #[.bool false])) w)
  (hMore : ∀ (x : Int) (v : Value) (w' : World) (cnt' : Nat), I64 x → lf x = true → f x = some v → MapR (Lit.int .i64) w' 3 b r n f (fun y => lf y && !decide (y = x)) cnt' → cnt' < cnt → w.grownBy w' (some r) → w'.heap.size = w.heap.size →
   (Instr.entry (.pointer (some ⟨r, 0, none⟩))).run Tryz.prog w' = .ok (.tuple #[.int .i64 x, v]) w' → wpList Tryz.prog ops Q rest (a.put o.dst (.tuple #[.bool true, .int .i64 x, v])) w') : wpList Tryz.prog ops Q (o :: rest) a w := by
 obtain ⟨D, left, h1, h2, h3, h4⟩ := h
 refine wpList_next_ranges w hg it hop 3 keyedI heldR (Value.int .i64) id (fun key kl hkey => by obtain ⟨x, rfl, _⟩ := Maps.keyOf_int_inv Tryz.underlying3 hkey; exact ⟨x, rfl⟩) (fun v y _ => ⟨v, rfl⟩) b r n D left cnt hit h1 (fun h0 hl => hDone h0 fun x _ => (h4 x).symm.trans (hl _)) ?_
 intro x c kl y w' cnt' hkey hlk hv hat hrg hlt hgr hsz hen
 obtain ⟨x', ex, rfl, hwx⟩ := Maps.keyOf_int_inv Tryz.underlying3 hkey
 cases ex
 cases hv
 have hf : f x = some c := by
  have a1 := (h2 x (.bool true)).symm.trans (hat _)
  have a2 := (h2 x (.bool false)).symm.trans (hat _)
  cases hfx : f x with
  | none =>
   rw [hfx] at a1 a2
   have := a1.trans a2.symm
   simp at this
  | some v =>
   rw [hfx] at a1
   simpa using a1
 exact hMore x c w' cnt' (i64_wf hwx) ((h4 x).symm.trans hlk) hf ⟨D, _, hrg, h2, h3, fun z => by rw [h4, sameKey_int]⟩ hlt hgr hsz hen
end
end Go.Proofs.YtmpciohmljpncaaGreatDoor
namespace Go.Proofs.YtmpciohmljpncaaGreatDoor
open Go.ChangeShapes Go.WideShapes Go.ChangeAt Go.RowKit Go.Lib Go.Shelf Go.Maps
/-- blocks that are maps -/
def OfM (w : World) (X : Nat → Prop) : Prop := ∀ g, X g → ∃ es c, w.heap[g]? = some (.map es c)
theorem OfM.one {w : World} {b : Nat} {es : Array MapEntry} {c : Nat} (h : w.heap[b]? = some (.map es c)) : OfM w (fun g => g = b) := fun g hg => by subst hg; exact ⟨es, c, h⟩
theorem MapV.block {α : Type} {mk : α → Lit} {w : World} {k : TypeId} {b n : Nat} {f : α → Option Value} (h : MapV mk w k b n f) : ∃ es c, w.heap[b]? = some (.map es c) := by
 obtain ⟨D, ⟨es, c, h1, -⟩, -⟩ := h
 exact ⟨es, c, h1⟩
theorem MapV.ofM {α : Type} {mk : α → Lit} {w : World} {k : TypeId} {b n : Nat} {f : α → Option Value} (h : MapV mk w k b n f) : OfM w (fun g => g = b) := by
 obtain ⟨es, c, h1⟩ := h.block
 exact OfM.one h1
theorem cells_keepM {X : Nat → Prop} {w w' : World} (k : Keeps X w w') (hX : OfM w X) {b : Nat} {cs : Array Value} {T : TypeId} {f : Nat × Nat} (h : w.heap[b]? = some (.cells cs T f)) : w'.heap[b]? = some (.cells cs T f) :=
 (k.block b (Array.getElem?_eq_some_iff.1 h).1 (fun hx => by
  obtain ⟨es, c, h1⟩ := hX b hx
  rw [h] at h1
  cases h1)).trans h
theorem owns_keepM {X : Nat → Prop} {w w' : World} {base : Nat} {e : TypeId} {size : Nat} {v : Value} {n : Nat} {xs : List Value} (h : w.ownsRow base e size v n xs) (k : Keeps X w w') (hX : OfM w X) : w'.ownsRow base e size v n xs :=
 owns_keeps h k fun g hg hx => by
  obtain ⟨es, c, h1⟩ := hX g hx
  obtain ⟨cs, f, h2⟩ := ownsRow_kind h g hg
  rw [h1] at h2
  cases h2
theorem cell_keepM {X : Nat → Prop} {w w' : World} (k : Keeps X w w') (hX : OfM w X) {p : Addr} {u : Value} (h : w.cell? p = some u) : w'.cell? p = some u := by
 have hlt := World.block_lt_of_cell? w p h
 refine (k.cell hlt (fun hx => ?_)).trans h
 obtain ⟨es, c, h1⟩ := hX _ hx
 simp [World.cell?, h1] at h
theorem sl_keepM {α : Type} {enc : α → List Value} {size : Nat} {X : Nat → Prop} {w w' : World} {v : Value} {xs : List α} (_hsz : 0 < size) (_hs : ∀ x, (enc x).length = size) (h : Sl enc size w v xs) (k : Keeps X w w') (hX : OfM w X) : Sl enc size w' v xs := by
 obtain ⟨h1, a, cap, h2, hcap, h3⟩ := h
 refine ⟨h1, a, cap, h2, hcap, fun i x hi => ?_⟩
 obtain ⟨b, off, ha, hb, hc⟩ := h3 i x hi
 exact ⟨b, off, ha, Nat.lt_of_lt_of_le hb k.size, fun j u hu => cell_keepM k hX (hc j u hu)⟩
theorem MapV.keepB {α : Type} {mk : α → Lit} {w w' : World} {k : TypeId} {b n : Nat} {f : α → Option Value} (h : MapV mk w k b n f) (e : w'.heap[b]? = w.heap[b]?) : MapV mk w' k b n f := by
 obtain ⟨D, ⟨es, c, h1, h2⟩, h3⟩ := h
 exact ⟨D, ⟨es, c, e.trans h1, h2⟩, h3⟩
theorem there_succ (S : List SvcD) (k : Nat) (hk : k < S.length) (id : Int) : thereB (S.take (k + 1)) id = (thereB (S.take k) id || S[k].id == id) := by
 unfold thereB
 rw [take_snoc S k hk, List.any_append]
 simp
theorem turned_keeps {w w' : World} {q : Nat} (h : w.mapTurned w' q) : Keeps (fun g => g = q) w w' := Keeps.of_grown h.grown (fun k hk => by cases hk; rfl)
theorem turned_other {w w' : World} {q g : Nat} (h : w.mapTurned w' q) (hg : g < w.heap.size) (hne : g ≠ q) : w'.heap[g]? = w.heap[g]? := (turned_keeps h).block g hg hne
section
variable {α : Type} {mk : α → Lit} {k : TypeId} {b n : Nat} {f : α → Option Value}
theorem wp_mv_put [DecidableEq α] {w : World} {o : Oper} {a : Act} {K : Act → World → Prop} {Q : Exit → Act → World → Prop} (m x v : Operand) (t : TypeId) (hop : o.op = Op.mapUpdate t m x v) {e : TypeId} (h : MapV mk w k b n f) (hmk : ∀ x y, mk x = mk y → x = y) (Ky : Keyed Tryz.prog k) (ht : Tryz.prog.underlying t = some (.map k e)) (hn : n < maxLen)
  (hm : a.eval m = .map (some b)) (key val : Value) (hx : a.eval x = key) (hv : a.eval v = val) {y : α} (hkey : keyOf Tryz.prog k key = some (mk y))
  (hK : ∀ w', MapV mk w' k b (n + 1) (fun z => if z = y then some val else f z) → w.mapTurned w' b → K (a.put o.dst undef) w') : o.wp Tryz.prog a w K Q := by
 obtain ⟨w', hrun, r1, r2⟩ := h.put hmk Ky ht hn hkey (val := val)
 unfold Oper.wp
 simp [execOp, hop, hm, hx, hv, hrun, Result.andThen]
 exact hK w' r1 r2
end
end Go.Proofs.YtmpciohmljpncaaGreatDoor
namespace Go.Proofs
open Go.Shelf
def Tryz.l264_ren : Go.Shelf.Ren := ⟨fun | 264 => 34 | n => n, fun | 53 => 80 | 46 => 173 | n => n, fun | n => n⟩
theorem Tryz.l264 : Go.Proofs.Lays.n264 Tryz.prog Tryz.l264_ren := {
  mixed := by kernel_rfl
  f264 := Tryz.func34.trans (congrArg some (by kernel_rfl))
  t46 := Tryz.underlying173
  a46 := Tryz.isAgg173
  z46 := Tryz.sizeOf173
  v46 := Tryz.zeroValue173
  t53 := Tryz.underlying80
  a53 := Tryz.isAgg80
  z53 := Tryz.sizeOf80
  v53 := Tryz.zeroValue80 }
end Go.Proofs
namespace Go.Proofs.YtmpciohmljpncaaGreatDoor
open Go.ChangeShapes Go.WideShapes Go.ChangeAt Go.RowKit Go.Lib Go.Shelf Go.Maps
theorem self_any (a b : Int) (w : World) : Calls Tryz.prog 30 #[.int .i64 a, .int .i64 b] w fun e w' => e = .returned (.int .i64 (selfN a b)) ∧ w = w' := by
 by_cases h : a = b
 ·subst h
  have HS := hide (show selfN a a = 1 from if_pos rfl)
  go_enter Tryz.func30, Tryz.ntmps30
  go_wp2
  go_ret
  exact ⟨by rw [HS.out]; rfl, rfl⟩
 ·have HS := hide (show selfN a b = 0 from if_neg h)
  have hne : (a == b) = false := by simp [h]
  go_enter Tryz.func30, Tryz.ntmps30
  go_wp2
  go_ret
  exact ⟨by rw [HS.out]; rfl, rfl⟩
def sumL (L : List Int) : Int := L.foldl sumM 0
theorem sumL_most : ∀ (L : List Int), (∀ x ∈ L, 0 ≤ x) → L.foldl sumM mostN = mostN
 | [], _ => rfl
 | x :: L, hx => by
  show L.foldl sumM (sumM mostN x) = mostN
  rw [show sumM mostN x = mostN by have := hx x (List.mem_cons_self ..); unfold sumM mostN; omega]
  exact sumL_most L fun y hy => hx y (List.mem_cons_of_mem _ hy)
set_option maxRecDepth 100000 in
set_option maxHeartbeats 4000000 in
/-- all together, at most Most -/
theorem fsum_any (L : List Int) (v : Value) (w : World) (hs : Ints w v L) (hL : ∀ x ∈ L, 0 ≤ x ∧ x ≤ mostN) :
  Calls Tryz.prog 16 #[v] w fun e w' => e = .returned (.int .i64 (sumL L)) ∧ w = w' := by
 obtain ⟨hl, a, cap, rfl⟩ := hs.shape
 have HS := hide hs
 have HL := hide hL
 have HLE := hide hl
 clear hs hL hl
 go_enter Tryz.func16, Tryz.ntmps16
 go_wp2_with fail
 go_loopw [3, 8] (fun v3 v8 wr => ∃ (k : Nat) (n : Int), k ≤ L.length ∧ v8 = .int .i64 k ∧ v3 = .int .i64 n ∧ Hid (n = (L.take k).foldl sumM 0 ∧ 0 ≤ n ∧ n ≤ mostN) ∧ w = wr) (fun _ k _ => L.length - (intOf k).toNat)
 case atStart => exact ⟨0, 0, Nat.zero_le _, rfl, rfl, ⟨rfl, by decide, by decide⟩, rfl⟩
 case round =>
  obtain ⟨k, n, hk, rfl, rfl, hn, rfl⟩ := hrel
  by_cases hlt : k < L.length
  ·have hltz : (k : Int) < L.length := by omega
   have hwk : IntKind.i64.wrap ((k : Int) + 1) = ((k + 1 : Nat) : Int) := by have := HLE.out; rw [IntKind.wrap_i64]; omega
   obtain ⟨b, off, rfl, hbb, c0⟩ := ints_row HS.out k hlt
   have hx := HL.out L[k] (List.getElem_mem hlt)
   have hsn : (L.take (k + 1)).foldl sumM 0 = sumM ((L.take k).foldl sumM 0) L[k] := by rw [take_snoc L k hlt, List.foldl_append]; rfl
   have hdr : L.foldl sumM 0 = (L.drop (k + 1)).foldl sumM (sumM ((L.take k).foldl sumM 0) L[k]) := by
    rw [← hsn, ← List.foldl_append, List.take_append_drop]
   have hnd : ∀ y ∈ L.drop (k + 1), 0 ≤ y := fun y hy => (HL.out y (List.mem_of_mem_drop hy)).1
   rw [← hn.out.1] at hsn hdr
   generalize L[k] = x at c0 hx hsn hdr
   have h1 := hn.out.2.1
   have h2 := hn.out.2.2
   have e0 : mostN = 4611686018427387903 := rfl
   have hws : IntKind.i64.wrap (4611686018427387903 - n) = 4611686018427387903 - n := by rw [IntKind.wrap_i64]; omega
   by_cases hgt : x > 4611686018427387903 - n
   ·have hr : sumL L = 4611686018427387903 := by
     unfold sumL
     rw [hdr, show sumM n x = mostN by unfold sumM; omega, sumL_most _ hnd]
     rfl
    have HR := hide hr
    clear hr hdr hsn hnd h1 h2 e0 hn
    go_wp2
    go_ret
    exact ⟨by rw [HR.out]; rfl, rfl⟩
   ·have hwa : IntKind.i64.wrap (n + x) = n + x := by rw [IntKind.wrap_i64]; omega
    have HN := hide (show n + x = (L.take (k + 1)).foldl sumM 0 ∧ 0 ≤ n + x ∧ n + x ≤ mostN from ⟨by rw [hsn]; unfold sumM; omega, by omega, by omega⟩)
    clear hdr hsn hnd h1 h2 e0 hn
    go_wp2
    go_roundw
    case rel => exact ⟨k + 1, n + x, hlt, by go_num, rfl, HN.out, by first | exact trivial | rfl⟩
    case measure => simp [intOf]; omega
  ·obtain rfl : k = L.length := by omega
   have hltz : ¬ (L.length : Int) < L.length := by omega
   have hr := hn.out.1
   rw [List.take_length] at hr
   have HR := hide hr
   clear hr hn hlt
   go_wp2
   go_ret
   exact ⟨by rw [HR.out]; rfl, rfl⟩
theorem sumL_two {a b : Int} (h : 0 ≤ a ∧ a ≤ mostN) : sumL [a, b] = sumM a b := by
 unfold sumL
 show sumM (sumM 0 a) b = _
 rw [show sumM 0 a = a by unfold sumM; omega]
theorem fdown_any (a b : Int) (w : World) (ha : 0 ≤ a ∧ a ≤ 1000000) (hb : 1 ≤ b ∧ b ≤ 1000000) : Calls Tryz.prog 32 #[.int .i64 a, .int .i64 b] w fun e w' => e = .returned (.int .i64 (a / b)) ∧ w = w' := by
 have h1 : ¬ b < 1 := by omega
 have hq : Int.tdiv a b = a / b := Int.tdiv_eq_ediv_of_nonneg ha.1
 have hr : Int.tmod a b = a % b := Int.tmod_eq_emod_of_nonneg ha.1
 have h0 : ¬ a % b < 0 := by have := Int.emod_nonneg a (show b ≠ 0 by omega); omega
 have hz : ¬ b = 0 := by omega
 have hd1 : 0 ≤ a / b := Int.ediv_nonneg ha.1 (by omega)
 have hd2 : a / b ≤ a := Int.ediv_le_self b ha.1
 have hm1 : a % b < b := Int.emod_lt_of_pos a (by omega)
 have hw1 : IntKind.i64.wrap (a / b) = a / b := by rw [IntKind.wrap_i64]; omega
 have hw2 : IntKind.i64.wrap (a % b) = a % b := by rw [IntKind.wrap_i64]; omega
 go_enter Tryz.func32, Tryz.ntmps32
 go_wp2
 go_ret
 exact ⟨rfl, rfl⟩
/-- a map from numbers to numbers -/
def IM (w : World) (b n : Nat) (F : Int → Option Int) : Prop := MapV (Lit.int .i64) w 3 b n (fun x => (F x).map (Value.int .i64))
theorem zeroI (w : World) : (zeroValue 3).run Tryz.prog w = .ok (.int .i64 0) w := by kernel_rfl
theorem im_get (F : Int → Option Int) (x : Int) : ((F x).map (Value.int .i64)).getD (.int .i64 0) = .int .i64 ((F x).getD 0) := by
 cases F x <;> rfl
set_option maxRecDepth 100000 in
set_option maxHeartbeats 4000000 in
theorem greatest_any (L : List Int) (v : Value) (b n : Nat) (F : Int → Option Int) (w : World) (hs : Ints w v L) (hL : ∀ x ∈ L, I64 x) (hm : IM w b n F) :
  Calls Tryz.prog 31 #[v, .map (some b)] w fun e w' => e = .returned (.int .i64 (great L (fun x => (F x).getD 0))) ∧ w = w' := by
 obtain ⟨hl, a, cap, rfl⟩ := hs.shape
 have HS := hide hs
 have HL := hide hL
 have HLE := hide hl
 have HM := hide hm
 clear hs hL hl hm
 go_enter Tryz.func31, Tryz.ntmps31
 go_wp2_with fail
 go_loopw [5, 10] (fun v5 v10 wr => ∃ (k : Nat) (m : Int), k ≤ L.length ∧ v10 = .int .i64 k ∧ v5 = .int .i64 m ∧ Hid (m = great (L.take k) (fun x => (F x).getD 0)) ∧ w = wr) (fun _ k _ => L.length - (intOf k).toNat)
 case atStart => exact ⟨0, 0, Nat.zero_le _, rfl, rfl, rfl, rfl⟩
 case round =>
  obtain ⟨k, m, hk, rfl, rfl, hm, rfl⟩ := hrel
  by_cases hlt : k < L.length
  ·have hltz : (k : Int) < L.length := by omega
   have hwk : IntKind.i64.wrap ((k : Int) + 1) = ((k + 1 : Nat) : Int) := by have := HLE.out; rw [IntKind.wrap_i64]; omega
   obtain ⟨b2, off, rfl, hbb, c0⟩ := ints_row HS.out k hlt
   have hkey := keyIn (HL.out L[k] (List.getElem_mem hlt))
   have hsn : great (L.take (k + 1)) (fun x => (F x).getD 0) = max (great (L.take k) (fun x => (F x).getD 0)) ((F L[k]).getD 0) := by unfold great; rw [take_snoc L k hlt, List.foldl_append]; rfl
   rw [← hm.out] at hsn
   have hg := im_get F L[k]
   generalize L[k] = x at c0 hkey hsn hg
   have HN := hide hsn.symm
   have HG := hide hg
   clear hsn hm hg
   obtain ⟨z, hz⟩ : ∃ z, (F x).getD 0 = z := ⟨_, rfl⟩
   rw [hz] at HN HG
   clear hz
   go_wp2_with (at_lookup; refine wpList_mv_look _ rfl _ _ _ rfl HM.out keyedI Tryz.underlying61 (zeroI _) rfl _ rfl hkey _ HG.out ?_)
   go_roundw
   case rel => exact ⟨k + 1, max m z, hlt, by go_num, by first | rfl | go_num, HN.out, by first | exact trivial | rfl⟩
   case measure => simp [intOf]; omega
  ·obtain rfl : k = L.length := by omega
   have hltz : ¬ (L.length : Int) < L.length := by omega
   have hr := hm.out
   rw [List.take_length] at hr
   have HR := hide hr
   clear hr hm hlt
   go_wp2
   go_ret
   exact ⟨by rw [HR.out]; rfl, rfl⟩
set_option maxRecDepth 100000 in
set_option maxHeartbeats 2000000 in
theorem div64_one (lo : Int) (w : World) (hl : 0 ≤ lo ∧ lo < 18446744073709551616) : Calls Tryz.prog 35 #[.int .u64 0, .int .u64 lo, .int .u64 1] w fun e w' => e = .returned (.tuple #[.int .u64 lo, .int .u64 0]) ∧ Ext w w' := by
 have hq : Int.tdiv lo 1 = lo := by simp
 have hr : Int.tmod lo 1 = 0 := by simp
 have hw1 : IntKind.u64.wrap lo = lo := by rw [IntKind.wrap_u64]; omega
 go_enter Tryz.func35, Tryz.ntmps35
 go_wp2_with fail
 go_quiet (fail)
 rename_i nq
 have hE : Ext w (w.drewN nq) := Below.drewN' (Below.refl _ _) nq
 generalize w.drewN nq = w2 at hE ⊢
 go_wp2
 go_ret2
 exact ⟨rfl, hE⟩
set_option maxRecDepth 100000 in
set_option maxHeartbeats 4000000 in
/-- so many times as much, at most Most -/
theorem fpart_any (n num : Int) (w : World) (hn : 0 ≤ n ∧ n ≤ mostN) (hm : 0 ≤ num ∧ num ≤ 1000) : Calls Tryz.prog 17 #[.int .i64 n, .int .i64 num, .int .i64 1] w fun e w' => e = .returned (.int .i64 (partM n num)) ∧ Ext w w' := by
 have e0 : mostN = 4611686018427387903 := rfl
 obtain ⟨x, rfl⟩ : ∃ x : Nat, n = x := ⟨n.toNat, by omega⟩
 obtain ⟨y, rfl⟩ : ∃ y : Nat, num = y := ⟨num.toNat, by omega⟩
 have hx : x < 18446744073709551616 := by omega
 have hy : y < 18446744073709551616 := by omega
 have hmul := fun W => Any.bits_Mul64 Tryz.l264 x y hx hy W
 have c1 : ¬ (x : Int) < 0 := by omega
 have c2 : ¬ (y : Int) < 0 := by omega
 have w1 : IntKind.u64.wrap (x : Int) = x := by rw [IntKind.wrap_u64]; omega
 have w2 : IntKind.u64.wrap (y : Int) = y := by rw [IntKind.wrap_u64]; omega
 have hpm : partM x y = min ((x * y : Nat) : Int) 4611686018427387903 := by unfold partM; rw [Int.natCast_mul]; rfl
 generalize x * y = p at hmul hpm
 have HMUL := hide hmul
 have HPM := hide hpm
 clear hmul hpm e0
 go_enter Tryz.func17, Tryz.ntmps17
 go_wp2_with fail
 refine (HMUL.out _).mono ?_
 rintro e w' ⟨rfl, rfl⟩
 by_cases hp : p < 18446744073709551616
 ·have h1 : p / 18446744073709551616 = 0 := Nat.div_eq_of_lt hp
  have h2 : p % 18446744073709551616 = p := Nat.mod_eq_of_lt hp
  rw [h1, h2]
  have h3 : ¬ ((0 : Nat) : Int) ≥ 1 := by omega
  have HD := hide (div64_one (p : Int) w' (by omega))
  clear h1 h2 HMUL
  go_wp2_with fail
  refine HD.out.mono ?_
  rintro e w3 ⟨rfl, E3⟩
  have hwm : IntKind.i64.wrap (min (p : Int) 4611686018427387903) = min (p : Int) 4611686018427387903 := by rw [IntKind.wrap_i64]; omega
  go_wp2
  go_ret
  exact ⟨by rw [HPM.out]; rfl, E3⟩
 ·have h1 : (1 : Int) ≤ ((p / 18446744073709551616 : Nat) : Int) := by omega
  have h3 : ((p / 18446744073709551616 : Nat) : Int) ≥ 1 := h1
  have hr : min ((p : Nat) : Int) 4611686018427387903 = 4611686018427387903 := by omega
  generalize p / 18446744073709551616 = q at h1 h3
  generalize p % 18446744073709551616 = r
  have HR := hide hr
  clear hr
  go_wp2
  go_ret
  exact ⟨by rw [HPM.out, HR.out]; rfl, Below.refl _ _⟩
end Go.Proofs.YtmpciohmljpncaaGreatDoor
namespace Go.Proofs.YtmpciohmljpncaaGreatDoor
open Go.ChangeShapes Go.WideShapes Go.ChangeAt Go.RowKit Go.Lib Go.Shelf Go.Maps
theorem RowsI.keepM {X : Nat → Prop} {w w' : World} (k : Keeps X w w') (hX : OfM w X) : ∀ {vs : List Value} {ls : List (List Int)}, RowsI w vs ls → RowsI w' vs ls
 | [], [], _ => trivial
 | _ :: _, _ :: _, h => ⟨sl_keepM (by decide) (fun _ => rfl) h.1 k hX, RowsI.keepM k hX h.2⟩
 | [], _ :: _, h => h.elim
 | _ :: _, [], h => h.elim
theorem KidsV.keepM {X : Nat → Prop} {w w' : World} {B : Nat} {v : Value} {K : List (List Int)} (h : KidsV B w v K) (k : Keeps X w w') (hX : OfM w X) : KidsV B w' v K := by
 obtain ⟨vs, h1, h2⟩ := h
 exact ⟨vs, owns_keepM h1 k hX, h2.keepM k hX⟩
theorem KidsV.z {B : Nat} {w : World} {v : Value} {K : List (List Int)} (h : KidsV B w v K) : KidsV 0 w v K := by
 obtain ⟨vs, h1, h2⟩ := h
 exact ⟨vs, ownsLe h1 (Nat.zero_le _), h2⟩
/-- what lies in no map that is written stands -/
theorem turn_cells {W w8 w9 w' : World} {q g : Nat} {cs : Array Value} {T : TypeId} {f : Nat × Nat} (E8 : Ext W w8) (ht : w8.mapTurned w9 q) (hq : OfM w8 (fun k => k = q)) (E9 : Ext w9 w') (h : W.heap[g]? = some (.cells cs T f)) : w'.heap[g]? = some (.cells cs T f) := by
 have h8 := (E8.block g (Array.getElem?_eq_some_iff.1 h).1).trans h
 have h9 := cells_keepM (turned_keeps ht) hq h8
 exact (E9.block g (Array.getElem?_eq_some_iff.1 h9).1).trans h9
theorem turn_map {α : Type} {mk : α → Lit} {W w8 w9 w' : World} {q b n : Nat} {k : TypeId} {f : α → Option Value} (E8 : Ext W w8) (ht : w8.mapTurned w9 q) (E9 : Ext w9 w') (hne : b ≠ q) (h : MapV mk W k b n f) : MapV mk w' k b n f := by
 have h8 := h.ext E8
 exact (h8.keepB (turned_other ht h8.lt hne)).ext E9
theorem turn_ext {w0 W w8 w9 w' : World} {q : Nat} (E : Ext w0 W) (E8 : Ext W w8) (ht : w8.mapTurned w9 q) (E9 : Ext w9 w') (hq : w0.heap.size ≤ q) : Ext w0 w' := (Keeps.ext (E.trans E8) (turned_keeps ht) fun g hg => by omega).trans E9
/-- a store into a map, behind all that it waits for -/
def PhM (W : World) (q n : Nat) (f : Int → Option Value) : List Value → World → Prop
 | [], w' => Ext W w'
 | _ :: _, w' => ∃ w8 w9, Ext W w8 ∧ w8.mapTurned w9 q ∧ MapV (Lit.int .i64) w9 3 q n f ∧ Ext w9 w'
theorem PhM.keep {W : World} {q n : Nat} {f : Int → Option Value} : ∀ {vs : List Value} {w' w'' : World}, PhM W q n f vs w' → Ext w' w'' → PhM W q n f vs w''
 | [], _, _, h, e => Ext.trans h e
 | _ :: _, _, _, ⟨w8, w9, h1, h2, h3, h4⟩, e => ⟨w8, w9, h1, h2, h3, h4.trans e⟩
theorem PhM.x {W : World} {q n : Nat} {f : Int → Option Value} {vs : List Value} {w' : World} (h : PhM W q n f vs w') (hl : vs.length ≤ 0) : Ext W w' := by
 rcases vs with _ | ⟨v, vs⟩
 ·exact h
 ·simp at hl
/-- .. of what a call tells -/
def PhK (W : World) (q n : Nat) (f : Int → Option Value) (id : Int) (K : List (List Int)) : List Value → World → Prop
 | [], w' => Ext W w'
 | [v], w' => Ext W w' ∧ KidsV 0 w' v K
 | v :: _ :: _, w' => ∃ w8 w9, Ext W w8 ∧ KidsV 0 w8 v K ∧ w8.mapTurned w9 q ∧ MapV (Lit.int .i64) w9 3 q (n + 1) (fun z => if z = id then some v else f z) ∧ Ext w9 w'
theorem PhK.keep {W : World} {q n : Nat} {f : Int → Option Value} {id : Int} {K : List (List Int)} : ∀ {vs : List Value} {w' w'' : World}, PhK W q n f id K vs w' → Ext w' w'' → PhK W q n f id K vs w''
 | [], _, _, h, e => Ext.trans h e
 | [_], _, _, ⟨h1, h2⟩, e => ⟨Ext.trans h1 e, h2.ext e⟩
 | _ :: _ :: _, _, _, ⟨w8, w9, h1, h2, h3, h4, h5⟩, e => ⟨w8, w9, h1, h2, h3, h4, h5.trans e⟩
theorem PhK.x {W : World} {q n : Nat} {f : Int → Option Value} {id : Int} {K : List (List Int)} {vs : List Value} {w' : World} (h : PhK W q n f id K vs w') (hl : vs.length ≤ 1) : Ext W w' := by
 rcases vs with _ | ⟨v, _ | ⟨u, vs⟩⟩
 ·exact h
 ·exact h.1
 ·simp at hl
/-- .. of two numbers that are laid -/
def PhN (W : World) (q n : Nat) (f : Int → Option Value) (L : List Int) : List Value → World → Prop
 | [], w' => Ext W w'
 | [v], w' => Ext W w' ∧ Ints w' v L
 | _ :: _ :: _, w' => ∃ w8 w9, Ext W w8 ∧ w8.mapTurned w9 q ∧ MapV (Lit.int .i64) w9 3 q n f ∧ Ext w9 w'
theorem PhN.keep {W : World} {q n : Nat} {f : Int → Option Value} {L : List Int} : ∀ {vs : List Value} {w' w'' : World}, PhN W q n f L vs w' → Ext w' w'' → PhN W q n f L vs w''
 | [], _, _, h, e => Ext.trans h e
 | [_], _, _, ⟨h1, h2⟩, e => ⟨Ext.trans h1 e, h2.ext e⟩
 | _ :: _ :: _, _, _, ⟨w8, w9, h1, h2, h3, h4⟩, e => ⟨w8, w9, h1, h2, h3, h4.trans e⟩
theorem PhN.x {W : World} {q n : Nat} {f : Int → Option Value} {L : List Int} {vs : List Value} {w' : World} (h : PhN W q n f L vs w') (hl : vs.length ≤ 1) : Ext W w' := by
 rcases vs with _ | ⟨v, _ | ⟨u, vs⟩⟩
 ·exact h
 ·exact h.1
 ·simp at hl
theorem ints_lit2 (w : World) (x y : Int) : Ints (w.alloc (.cells #[.int .i64 x, .int .i64 y] 3)) (.slice (some ⟨w.heap.size, 0, none⟩) 2 2) [x, y] := by
 have h := World.ownsRow_lit (base := 0) (e := 3) (size := 1) w #[.int .i64 x, .int .i64 y] 2 (Nat.zero_le _) (by unfold maxLen; omega) rfl
 exact Sl.of_own' (enc := encI) (xs := [x, y]) (fun _ => rfl) (base := 0) (e := 3) h
/-- the maps of walks, while they are filled: kk services' kids, kn services' own numbers -/
structure KW (w0 wr : World) (bk bn kk kn : Nat) (c : ConfD) (tgt : Int) : Prop where
 ext : Ext w0 wr
 km : ∃ g, MapV (Lit.int .i64) wr 3 bk kk g ∧ (∀ x, (g x).isSome = thereB (c.S.take kk) x) ∧ ∀ x v, g x = some v → KidsV 0 wr v (kidsG c x)
 nm : IM wr bn kn (fun x => if thereB (c.S.take kn) x = true then some (selfN x tgt) else none)
theorem KW.to {w0 wr w' : World} {bk bn kk kn : Nat} {c : ConfD} {tgt : Int} (h : KW w0 wr bk bn kk kn c tgt) (e : Ext wr w') : KW w0 w' bk bn kk kn c tgt := by
 obtain ⟨g, h1, h2, h3⟩ := h.km
 exact ⟨h.ext.trans e, ⟨g, h1.ext e, h2, fun x v hv => (h3 x v hv).ext e⟩, h.nm.ext e⟩
theorem KW.putK {w0 W w8 w9 w' : World} {bk bn k kn : Nat} {c : ConfD} {tgt : Int} (h : KW w0 W bk bn k kn c tgt) (hk : k < c.S.length) (hb : w0.heap.size ≤ bk) (hne : bn ≠ bk) {g : Int → Option Value} (h2 : ∀ x, (g x).isSome = thereB (c.S.take k) x) (h3 : ∀ x v, g x = some v → KidsV 0 W v (kidsG c x)) (hm : MapV (Lit.int .i64) W 3 bk k g) {v : Value}
  (E8 : Ext W w8) (hv : KidsV 0 w8 v (kidsG c c.S[k].id)) (ht : w8.mapTurned w9 bk) (h9 : MapV (Lit.int .i64) w9 3 bk (k + 1) (fun z => if z = c.S[k].id then some v else g z)) (E9 : Ext w9 w') : KW w0 w' bk bn (k + 1) kn c tgt := by
 have hX : OfM w8 (fun k => k = bk) := (hm.ext E8).ofM
 have hK := turned_keeps ht
 refine ⟨turn_ext h.ext E8 ht E9 hb, ⟨_, h9.ext E9, fun x => ?_, fun x u hu => ?_⟩, turn_map E8 ht E9 hne h.nm⟩
 ·show (if x = c.S[k].id then some v else g x).isSome = _
  rw [there_succ c.S k hk, ← h2 x]
  by_cases e : x = c.S[k].id
  ·simp [e]
  ·have : (c.S[k].id == x) = false := by simp; exact fun e' => e e'.symm
   simp [e, this]
 ·have hu' : (if x = c.S[k].id then some v else g x) = some u := hu
  by_cases e : x = c.S[k].id
  ·rw [if_pos e] at hu'
   cases hu'
   rw [e]
   exact (hv.keepM hK hX).ext E9
  ·rw [if_neg e] at hu'
   exact (((h3 x u hu').ext E8).keepM hK hX).ext E9
theorem KW.putN {w0 W w8 w9 w' : World} {bk bn k : Nat} {c : ConfD} {tgt : Int} (h : KW w0 W bk bn (k + 1) k c tgt) (hk : k < c.S.length) (hb : w0.heap.size ≤ bn) (hne : bn ≠ bk)
  (E8 : Ext W w8) (ht : w8.mapTurned w9 bn) (h9 : MapV (Lit.int .i64) w9 3 bn (k + 1) (fun z => if z = c.S[k].id then some (.int .i64 (selfN c.S[k].id tgt)) else ((if thereB (c.S.take k) z = true then some (selfN z tgt) else none : Option Int)).map (Value.int .i64))) (E9 : Ext w9 w') : KW w0 w' bk bn (k + 1) (k + 1) c tgt := by
 have hX : OfM w8 (fun k => k = bn) := (show MapV (Lit.int .i64) W 3 bn k _ from h.nm).ext E8 |>.ofM
 have hK := turned_keeps ht
 obtain ⟨g, r1, r2, r3⟩ := h.km
 refine ⟨turn_ext h.ext E8 ht E9 hb, ⟨g, turn_map E8 ht E9 hne.symm r1, r2, fun x v hv => (((r3 x v hv).ext E8).keepM hK hX).ext E9⟩, ?_⟩
 refine (h9.congr fun z => ?_).ext E9
 show _ = Option.map (Value.int .i64) (if thereB (c.S.take (k + 1)) z = true then some (selfN z tgt) else none)
 rw [there_succ c.S k hk]
 by_cases e : z = c.S[k].id
 ·subst e
  simp
 ·have : (c.S[k].id == z) = false := by simp; exact fun e' => e e'.symm
  simp [e, this]
def lvF (c : ConfD) (tgt : Int) (d : Nat) (x : Int) : Option Int := if thereB c.S x = true then some (lvl (kidsG c) tgt d x) else none
theorem lvF_there {c : ConfD} {tgt : Int} {d : Nat} {x : Int} (h : thereB c.S x = true) : lvF c tgt d x = some (lvl (kidsG c) tgt d x) := by unfold lvF; rw [if_pos h]
theorem great_lv {c : ConfD} (h : c.R.all (leadB c.S) = true) (tgt : Int) (d : Nat) {a : Int} {l : List Int} (hl : l ∈ kidsG c a) : great l (fun x => (lvF c tgt d x).getD 0) = great l (lvl (kidsG c) tgt d) :=
 great_congr l 0 fun x hx => by rw [lvF_there (kids_there h hl hx)]; rfl
theorem stpN_snoc (K : List (List Int)) (own : Int) (f : Int → Int) (j : Nat) (hj : j < K.length) : stpN (K.take (j + 1)) own f = sumM (stpN (K.take j) own f) (great K[j] f) := by
 unfold stpN
 rw [take_snoc K j hj, List.foldl_append]
 rfl
theorem stpN_bd {K : List (List Int)} {n : Int} {f : Int → Int} (h : 0 ≤ n ∧ n ≤ mostN) : 0 ≤ stpN K n f ∧ stpN K n f ≤ mostN := by
 have h1 := step_ge f K n h.2
 refine ⟨by omega, ?_⟩
 rw [stp_sum f K n h.2]
 omega
theorem great_bd {l : List Int} {f : Int → Int} (h : ∀ x, f x ≤ mostN) : 0 ≤ great l f ∧ great l f ≤ mostN := ⟨great_nn f l, great_le_of l 0 (by decide) fun x _ => h x⟩
theorem MapR.cnt_le {α : Type} {mk : α → Lit} {w : World} {k : TypeId} {b r n cnt : Nat} {f : α → Option Value} {lf : α → Bool} (h : MapR mk w k b r n f lf cnt) : cnt ≤ n := by
 obtain ⟨D, left, ⟨es, clock, since, seen, c0, hb, hf, hs, hD, hr, ho, hc, -⟩, -⟩ := h
 rw [← hc]
 refine Nat.le_trans ?_ hs
 unfold leftOf
 exact Array.size_filter_le
end Go.Proofs.YtmpciohmljpncaaGreatDoor
