
/- (*Ring).Of. -/
import Derived.Test.YtoncfogihiapiaaRingQ
namespace Go.Proofs.Ytoncfogihiapiaa
open Go.ChangeShapes Go.WideShapes Go.ChangeAt Go.RowKit Go.Sort Go.Shelf
attribute [local go_sem] Oper.semAt_some
/-- a block of cells stands where no block of cells has turned -/
theorem cells_kept {X Y : World} {row : Option Nat} (hg : X.grownBy Y row) (hr : ∀ r, row = some r → ∃ o : Obj, X.heap[r]? = some o ∧ o.isCells = false) {k : Nat} {c : Array Value} {t : TypeId} {f : Nat × Nat} (h : X.heap[k]? = some (.cells c t f)) : Y.heap[k]? = some (.cells c t f) :=
  (hg.block k (Array.getElem?_eq_some_iff.1 h).1 (fun e => by obtain ⟨o, ho, hc⟩ := hr k e.symm; rw [h] at ho; cases ho; cases hc)).trans h
theorem box_other {W : World} {B B' : Nat} {t : TypeId} {v : Value} (h : Boxed W B t v) (hne : B ≠ B') (u : Value) : Boxed (W.setCell ⟨B', 0, none⟩ u) B t v := (Below.heap_setCell W _ u B hne).trans h
theorem seq_stops (n : Nat) (hn : 1 ≤ n) (b1 b2 B : Nat) (key : Int) (a : Option Addr) (cap : Nat) (P : List (Int × Int)) (S : Nat → Prop) (hsort : P.Pairwise (fun x y => leP x y = true)) (hl : P.length ≤ 100000) (w : World)
    (hs : ∀ W W', Below w.heap.size w W → KpX S W W' → W'.cell? ⟨b1, 0, none⟩ = some (.pointer (some ⟨B, 0, none⟩)) ∧ W'.cell? ⟨b2, 0, none⟩ = some (.int .u64 key) ∧ W'.cell? ⟨B, 0, none⟩ = some (.slice a P.length cap) ∧ Pts W' (.slice a P.length cap) P) :
    SeqStopsK Fence.wide n Try.prog 61 #[.pointer (some ⟨b1, 0, none⟩), .pointer (some ⟨b2, 0, none⟩)] encY (KpX S) (fun ys => ys = idsK key P) (fun pre => ∃ k, k ≤ P.length ∧ pre = (idsK key P).take k) P.length w :=
  fun l J Jx W hW hJ _ hY h0 => seq_round n hn l b1 b2 B key a cap P S hsort hl J Jx W hJ (fun W' h => hs W W' hW h) hY h0
theorem kpx_sl {α : Type} {enc : α → List Value} {size : Nat} {S : Nat → Prop} {W W' : World} {v : Value} {xs : List α} (h : Sl enc size W v xs) (k : KpX S W W') (hlt : ∀ a n c, v = .slice (some a) n c → xs ≠ [] → ¬ S a.block) : Sl enc size W' v xs := by
  obtain ⟨h1, a, cap, h2, hcap, h3⟩ := h
  refine ⟨h1, a, cap, h2, hcap, fun i x hi => ?_⟩
  obtain ⟨b, off, ha, hb, hc⟩ := h3 i x hi
  refine ⟨b, off, ha, Nat.lt_of_lt_of_le hb k.1, fun j u hu => k.cell (hc j u hu) ?_⟩
  have hne : xs ≠ [] := fun e => by subst e; simp at hi
  exact hlt ⟨b, off, none⟩ _ _ (by rw [h2, ha]) hne
/-- what the walk of the ring's points needs of a ring: it stands below 'base' -/
theorem ring_reads {w : World} {B n : Nat} {a : Option Addr} {cap : Nat} {P : List (Int × Int)} {T : TypeId} (h2 : w.heap[B]? = some (.cells #[.slice a P.length cap, .int .i64 n] T (0, 0))) (h3 : Pts w (.slice a P.length cap) P)
    {W0 : World} (e0 : Ext w W0) {S : Nat → Prop} (hS : ∀ k, k < w.heap.size → ¬ S k) {b1 b2 : Nat} {key : Int} (hb1 : ¬ S b1) (hb2 : ¬ S b2)
    (h4 : W0.cell? ⟨b1, 0, none⟩ = some (.pointer (some ⟨B, 0, none⟩))) (h5 : W0.cell? ⟨b2, 0, none⟩ = some (.int .u64 key)) :
    ∀ W W', Below W0.heap.size W0 W → KpX S W W' → W'.cell? ⟨b1, 0, none⟩ = some (.pointer (some ⟨B, 0, none⟩)) ∧ W'.cell? ⟨b2, 0, none⟩ = some (.int .u64 key) ∧ W'.cell? ⟨B, 0, none⟩ = some (.slice a P.length cap) ∧ Pts W' (.slice a P.length cap) P := by
  intro W W' hW hk
  have c := cell_of2 h2
  have hBl : B < w.heap.size := (Array.getElem?_eq_some_iff.1 h2).1
  refine ⟨hk.cell ((hW.cell (p := ⟨b1, 0, none⟩) (World.block_lt_of_cell? _ _ h4)).trans h4) hb1, hk.cell ((hW.cell (p := ⟨b2, 0, none⟩) (World.block_lt_of_cell? _ _ h5)).trans h5) hb2,
    hk.cell (((Ext.trans e0 hW).cell (p := ⟨B, 0, none⟩) hBl).trans c) (hS B hBl), kpx_sl ((h3.ext e0).ext hW) hk ?_⟩
  intro a' n' c' e hne
  have hpos : 0 < P.length := List.length_pos_iff.2 hne
  obtain ⟨b, off, ha, hb, _⟩ := pts_at h3 0 hpos
  cases e; cases ha
  exact hS b hb

end Go.Proofs.Ytoncfogihiapiaa
