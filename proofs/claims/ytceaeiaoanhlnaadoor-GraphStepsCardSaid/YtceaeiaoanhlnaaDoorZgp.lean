/- Merged texts (MpR, GkM). -/
import Derived.Maps.RangeWalk
import Derived.Test.YtceaeiaoanhlnaaDoorZcb
namespace Go.Proofs.YtceaeiaoanhlnaaDoor
open Go.ChangeShapes Go.WideShapes Go.ChangeAt Go.RowKit Go.Lib Go.Shelf Go.Maps
/-- block r is under way over the map of block b; lf tells which keys are still to come -/
def MapR {α : Type} (mk : α → Lit) (w : World) (k : TypeId) (b r n : Nat) (f : α → Option Value) (lf : α → Bool) (cnt : Nat) : Prop :=
 ∃ (D : DataW Value) (left : Lit → Bool), w.ranges Tryd.prog k heldR b r n D left cnt ∧ (∀ x z, D.atKey (mk x) (.held z) = .held ((f x).getD z)) ∧ (∀ x, Maps.has D (mk x) = (f x).isSome) ∧ ∀ x, left (mk x) = lf x
section
variable {α : Type} {mk : α → Lit} {w : World} {k : TypeId} {b r n cnt : Nat} {f : α → Option Value} {lf : α → Bool}
theorem MapR.map (h : MapR mk w k b r n f lf cnt) : MapV mk w k b n f := by
 obtain ⟨D, left, h1, h2, h3, -⟩ := h
 exact ⟨D, h1.owns, h2, h3⟩
theorem MapR.left_eq (h : MapR mk w k b r n f lf cnt) : w.rangeLeft b r = cnt := by
 obtain ⟨D, left, h1, -⟩ := h
 exact h1.left_eq
theorem MapR.lt (h : MapR mk w k b r n f lf cnt) : r < w.heap.size := by
 obtain ⟨D, left, h1, -⟩ := h
 exact h1.lt
theorem MapR.kept {w' : World} {row : Option Nat} (h : MapR mk w k b r n f lf cnt) (hg : w.grownBy w' row) (hb : some b ≠ row) (hr : some r ≠ row) : MapR mk w' k b r n f lf cnt := by
 obtain ⟨D, left, h1, h2⟩ := h
 exact ⟨D, left, h1.kept hg hb hr, h2⟩
theorem MapR.ext {w' : World} (h : MapR mk w k b r n f lf cnt) (e : Ext w w') : MapR mk w' k b r n f lf cnt := h.kept (row := none) ⟨e.os, e.tape, e.output, e.size, fun i hi _ => e.block i hi⟩ (by simp) (by simp)
end
section
variable {α : Type} {mk : α → Lit} {k : TypeId} {b n : Nat} {f : α → Option Value} (w : World) {ops : Array Oper} {rest : List Oper} {o : Oper} {a : Act} {Q : Exit → Act → World → Prop}
theorem wpList_mr_range (hg : o.guard = none) (m : Operand) (t : TypeId) (hop : o.op = Op.range t m) {e : TypeId} (h : MapV mk w k b n f) (K : Keyed Tryd.prog k) (ht : Tryd.prog.underlying t = some (.map k e)) (hm : a.eval m = .map (some b))
  (hK : ∀ w' cnt, MapR mk w' k b w.heap.size n f (fun x => (f x).isSome) cnt → w.grownBy w' none → w'.heap.size = w.heap.size + 1 → wpList Tryd.prog ops Q rest (a.put o.dst (.pointer (some ⟨w.heap.size, 0, none⟩))) w') : wpList Tryd.prog ops Q (o :: rest) a w := by
 obtain ⟨D, h1, h2, h3⟩ := h
 exact wpList_range_own w hg m t hop k e K ht heldR b n D hm h1 fun w' r1 r2 r3 => hK w' _ ⟨D, _, r1, h2, h3, h3⟩ r2 r3
theorem i64_wf {x : Int} (h : (Lit.int .i64 x).wf = true) : I64 x := by
 simp only [Lit.wf, Bool.and_eq_true, decide_eq_true_eq] at h
 exact h
theorem sameKey_int (x y : Int) : (Lit.int .i64 y).sameKey (Lit.int .i64 x) = decide (y = x) := by
 rw [Bool.eq_iff_iff]
 simp [Lit.sameKey]
theorem wpList_mr_next {r cnt : Nat} {f : Int → Option Value} {lf : Int → Bool} (hg : o.guard = none) (it : Operand) (hop : o.op = Op.next it false) (h : MapR (Lit.int .i64) w 3 b r n f lf cnt) (hit : a.eval it = .pointer (some ⟨r, 0, none⟩))
  (hDone : cnt = 0 → (∀ x, I64 x → lf x = false) → wpList Tryd.prog ops Q rest (a.put o.dst (.tuple #[.bool false])) w)
  (hMore : ∀ (x : Int) (v : Value) (w' : World) (cnt' : Nat), I64 x → lf x = true → f x = some v → MapR (Lit.int .i64) w' 3 b r n f (fun y => lf y && !decide (y = x)) cnt' → cnt' < cnt → w.grownBy w' (some r) → w'.heap.size = w.heap.size →
   (Instr.entry (.pointer (some ⟨r, 0, none⟩))).run Tryd.prog w' = .ok (.tuple #[.int .i64 x, v]) w' → wpList Tryd.prog ops Q rest (a.put o.dst (.tuple #[.bool true, .int .i64 x, v])) w') : wpList Tryd.prog ops Q (o :: rest) a w := by
 obtain ⟨D, left, h1, h2, h3, h4⟩ := h
 refine wpList_next_ranges w hg it hop 3 keyedI heldR (Value.int .i64) id (fun key kl hkey => by obtain ⟨x, rfl, _⟩ := Maps.keyOf_int_inv Tryd.underlying3 hkey; exact ⟨x, rfl⟩) (fun v y _ => ⟨v, rfl⟩) b r n D left cnt hit h1 (fun h0 hl => hDone h0 fun x _ => (h4 x).symm.trans (hl _)) ?_
 intro x c kl y w' cnt' hkey hlk hv hat hrg hlt hgr hsz hen
 obtain ⟨x', ex, rfl, hwx⟩ := Maps.keyOf_int_inv Tryd.underlying3 hkey
 cases ex
 cases hv
 have hf : f x = some c := by
  have a1 := (h2 x (.bool true)).symm.trans (hat _)
  have a2 := (h2 x (.bool false)).symm.trans (hat _)
  cases hfx : f x with
  | none =>
   rw [hfx] at a1 a2
   have := a1.trans a2.symm
   simp at this
  | some v =>
   rw [hfx] at a1
   simpa using a1
 exact hMore x c w' cnt' (i64_wf hwx) ((h4 x).symm.trans hlk) hf ⟨D, _, hrg, h2, h3, fun z => by rw [h4, sameKey_int]⟩ hlt hgr hsz hen
end
end Go.Proofs.YtceaeiaoanhlnaaDoor
namespace Go.Proofs.YtceaeiaoanhlnaaDoor
open Go.ChangeShapes Go.WideShapes Go.ChangeAt Go.RowKit Go.Lib Go.Shelf Go.Maps
/-- blocks that are maps -/
def OfM (w : World) (X : Nat → Prop) : Prop := ∀ g, X g → ∃ es c, w.heap[g]? = some (.map es c)
theorem OfM.one {w : World} {b : Nat} {es : Array MapEntry} {c : Nat} (h : w.heap[b]? = some (.map es c)) : OfM w (fun g => g = b) := fun g hg => by subst hg; exact ⟨es, c, h⟩
theorem MapV.block {α : Type} {mk : α → Lit} {w : World} {k : TypeId} {b n : Nat} {f : α → Option Value} (h : MapV mk w k b n f) : ∃ es c, w.heap[b]? = some (.map es c) := by
 obtain ⟨D, ⟨es, c, h1, -⟩, -⟩ := h
 exact ⟨es, c, h1⟩
theorem MapV.ofM {α : Type} {mk : α → Lit} {w : World} {k : TypeId} {b n : Nat} {f : α → Option Value} (h : MapV mk w k b n f) : OfM w (fun g => g = b) := by
 obtain ⟨es, c, h1⟩ := h.block
 exact OfM.one h1
theorem cells_keepM {X : Nat → Prop} {w w' : World} (k : Keeps X w w') (hX : OfM w X) {b : Nat} {cs : Array Value} {T : TypeId} {f : Nat × Nat} (h : w.heap[b]? = some (.cells cs T f)) : w'.heap[b]? = some (.cells cs T f) :=
 (k.block b (Array.getElem?_eq_some_iff.1 h).1 (fun hx => by
  obtain ⟨es, c, h1⟩ := hX b hx
  rw [h] at h1
  cases h1)).trans h
theorem owns_keepM {X : Nat → Prop} {w w' : World} {base : Nat} {e : TypeId} {size : Nat} {v : Value} {n : Nat} {xs : List Value} (h : w.ownsRow base e size v n xs) (k : Keeps X w w') (hX : OfM w X) : w'.ownsRow base e size v n xs :=
 owns_keeps h k fun g hg hx => by
  obtain ⟨es, c, h1⟩ := hX g hx
  obtain ⟨cs, f, h2⟩ := ownsRow_kind h g hg
  rw [h1] at h2
  cases h2
theorem cell_keepM {X : Nat → Prop} {w w' : World} (k : Keeps X w w') (hX : OfM w X) {p : Addr} {u : Value} (h : w.cell? p = some u) : w'.cell? p = some u := by
 have hlt := World.block_lt_of_cell? w p h
 refine (k.cell hlt (fun hx => ?_)).trans h
 obtain ⟨es, c, h1⟩ := hX _ hx
 simp [World.cell?, h1] at h
theorem sl_keepM {α : Type} {enc : α → List Value} {size : Nat} {X : Nat → Prop} {w w' : World} {v : Value} {xs : List α} (_hsz : 0 < size) (_hs : ∀ x, (enc x).length = size) (h : Sl enc size w v xs) (k : Keeps X w w') (hX : OfM w X) : Sl enc size w' v xs := by
 obtain ⟨h1, a, cap, h2, hcap, h3⟩ := h
 refine ⟨h1, a, cap, h2, hcap, fun i x hi => ?_⟩
 obtain ⟨b, off, ha, hb, hc⟩ := h3 i x hi
 exact ⟨b, off, ha, Nat.lt_of_lt_of_le hb k.size, fun j u hu => cell_keepM k hX (hc j u hu)⟩
theorem MapV.keepB {α : Type} {mk : α → Lit} {w w' : World} {k : TypeId} {b n : Nat} {f : α → Option Value} (h : MapV mk w k b n f) (e : w'.heap[b]? = w.heap[b]?) : MapV mk w' k b n f := by
 obtain ⟨D, ⟨es, c, h1, h2⟩, h3⟩ := h
 exact ⟨D, ⟨es, c, e.trans h1, h2⟩, h3⟩
theorem there_succ (S : List SvcD) (k : Nat) (hk : k < S.length) (id : Int) : thereB (S.take (k + 1)) id = (thereB (S.take k) id || S[k].id == id) := by
 unfold thereB
 rw [take_snoc S k hk, List.any_append]
 simp
theorem turned_keeps {w w' : World} {q : Nat} (h : w.mapTurned w' q) : Keeps (fun g => g = q) w w' := Keeps.of_grown h.grown (fun k hk => by cases hk; rfl)
theorem turned_other {w w' : World} {q g : Nat} (h : w.mapTurned w' q) (hg : g < w.heap.size) (hne : g ≠ q) : w'.heap[g]? = w.heap[g]? := (turned_keeps h).block g hg hne
section
variable {α : Type} {mk : α → Lit} {k : TypeId} {b n : Nat} {f : α → Option Value}
theorem wp_mv_put [DecidableEq α] {w : World} {o : Oper} {a : Act} {K : Act → World → Prop} {Q : Exit → Act → World → Prop} (m x v : Operand) (t : TypeId) (hop : o.op = Op.mapUpdate t m x v) {e : TypeId} (h : MapV mk w k b n f) (hmk : ∀ x y, mk x = mk y → x = y) (Ky : Keyed Tryd.prog k) (ht : Tryd.prog.underlying t = some (.map k e)) (hn : n < maxLen)
  (hm : a.eval m = .map (some b)) (key val : Value) (hx : a.eval x = key) (hv : a.eval v = val) {y : α} (hkey : keyOf Tryd.prog k key = some (mk y))
  (hK : ∀ w', MapV mk w' k b (n + 1) (fun z => if z = y then some val else f z) → w.mapTurned w' b → K (a.put o.dst undef) w') : o.wp Tryd.prog a w K Q := by
 obtain ⟨w', hrun, r1, r2⟩ := h.put hmk Ky ht hn hkey (val := val)
 unfold Oper.wp
 simp [execOp, hop, hm, hx, hv, hrun, Result.andThen]
 exact hK w' r1 r2
end
end Go.Proofs.YtceaeiaoanhlnaaDoor
