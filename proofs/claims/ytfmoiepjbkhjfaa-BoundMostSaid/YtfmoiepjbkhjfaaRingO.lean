/- (*Ring).Of. -/
import Derived.Test.YtfmoiepjbkhjfaaRingQ
namespace Go.Proofs.Ytfmoiepjbkhjfaa
open Go.ChangeShapes Go.WideShapes Go.ChangeAt Go.RowKit Go.Sort Go.Shelf
attribute [local go_sem] Oper.semAt_some
/-- a block of cells stands where no block of cells has turned -/
theorem cells_kept {X Y : World} {row : Option Nat} (hg : X.grownBy Y row) (hr : ∀ r, row = some r → ∃ o : Obj, X.heap[r]? = some o ∧ o.isCells = false) {k : Nat} {c : Array Value} {t : TypeId} {f : Nat × Nat} (h : X.heap[k]? = some (.cells c t f)) : Y.heap[k]? = some (.cells c t f) :=
  (hg.block k (Array.getElem?_eq_some_iff.1 h).1 (fun e => by obtain ⟨o, ho, hc⟩ := hr k e.symm; rw [h] at ho; cases ho; cases hc)).trans h
theorem box_other {W : World} {B B' : Nat} {t : TypeId} {v : Value} (h : Boxed W B t v) (hne : B ≠ B') (u : Value) : Boxed (W.setCell ⟨B', 0, none⟩ u) B t v := (Below.heap_setCell W _ u B hne).trans h
theorem seq_stops (n : Nat) (hn : 1 ≤ n) (b1 b2 B : Nat) (key : Int) (a : Option Addr) (cap : Nat) (P : List (Int × Int)) (S : Nat → Prop) (hsort : P.Pairwise (fun x y => leP x y = true)) (hl : P.length ≤ 100000) (w : World)
    (hs : ∀ W W', Below w.heap.size w W → KpX S W W' → W'.cell? ⟨b1, 0, none⟩ = some (.pointer (some ⟨B, 0, none⟩)) ∧ W'.cell? ⟨b2, 0, none⟩ = some (.int .u64 key) ∧ W'.cell? ⟨B, 0, none⟩ = some (.slice a P.length cap) ∧ Pts W' (.slice a P.length cap) P) :
    SeqStopsK Fence.wide n Try.prog 57 #[.pointer (some ⟨b1, 0, none⟩), .pointer (some ⟨b2, 0, none⟩)] encY (KpX S) (fun ys => ys = idsK key P) (fun pre => ∃ k, k ≤ P.length ∧ pre = (idsK key P).take k) P.length w :=
  fun l J Jx W hW hJ _ hY h0 => seq_round n hn l b1 b2 B key a cap P S hsort hl J Jx W hJ (fun W' h => hs W W' hW h) hY h0
theorem kpx_sl {α : Type} {enc : α → List Value} {size : Nat} {S : Nat → Prop} {W W' : World} {v : Value} {xs : List α} (h : Sl enc size W v xs) (k : KpX S W W') (hlt : ∀ a n c, v = .slice (some a) n c → xs ≠ [] → ¬ S a.block) : Sl enc size W' v xs := by
  obtain ⟨h1, a, cap, h2, hcap, h3⟩ := h
  refine ⟨h1, a, cap, h2, hcap, fun i x hi => ?_⟩
  obtain ⟨b, off, ha, hb, hc⟩ := h3 i x hi
  refine ⟨b, off, ha, Nat.lt_of_lt_of_le hb k.1, fun j u hu => k.cell (hc j u hu) ?_⟩
  have hne : xs ≠ [] := fun e => by subst e; simp at hi
  exact hlt ⟨b, off, none⟩ _ _ (by rw [h2, ha]) hne
/-- what the walk of the ring's points needs of a ring: it stands below 'base' -/
theorem ring_reads {w : World} {B n : Nat} {a : Option Addr} {cap : Nat} {P : List (Int × Int)} {T : TypeId} (h2 : w.heap[B]? = some (.cells #[.slice a P.length cap, .int .i64 n] T (0, 0))) (h3 : Pts w (.slice a P.length cap) P)
    {W0 : World} (e0 : Ext w W0) {S : Nat → Prop} (hS : ∀ k, k < w.heap.size → ¬ S k) {b1 b2 : Nat} {key : Int} (hb1 : ¬ S b1) (hb2 : ¬ S b2)
    (h4 : W0.cell? ⟨b1, 0, none⟩ = some (.pointer (some ⟨B, 0, none⟩))) (h5 : W0.cell? ⟨b2, 0, none⟩ = some (.int .u64 key)) :
    ∀ W W', Below W0.heap.size W0 W → KpX S W W' → W'.cell? ⟨b1, 0, none⟩ = some (.pointer (some ⟨B, 0, none⟩)) ∧ W'.cell? ⟨b2, 0, none⟩ = some (.int .u64 key) ∧ W'.cell? ⟨B, 0, none⟩ = some (.slice a P.length cap) ∧ Pts W' (.slice a P.length cap) P := by
  intro W W' hW hk
  have c := cell_of2 h2
  have hBl : B < w.heap.size := (Array.getElem?_eq_some_iff.1 h2).1
  refine ⟨hk.cell ((hW.cell (p := ⟨b1, 0, none⟩) (World.block_lt_of_cell? _ _ h4)).trans h4) hb1, hk.cell ((hW.cell (p := ⟨b2, 0, none⟩) (World.block_lt_of_cell? _ _ h5)).trans h5) hb2,
    hk.cell (((Ext.trans e0 hW).cell (p := ⟨B, 0, none⟩) hBl).trans c) (hS B hBl), kpx_sl ((h3.ext e0).ext hW) hk ?_⟩
  intro a' n' c' e hne
  have hpos : 0 < P.length := List.length_pos_iff.2 hne
  obtain ⟨b, off, ha, hb, _⟩ := pts_at h3 0 hpos
  cases e; cases ha
  exact hS b hb

set_option maxRecDepth 100000 in
set_option maxHeartbeats 4000000 in
theorem of_in (key : Int) (B n : Nat) (a : Option Addr) (cap : Nat) (P : List (Int × Int)) (w : World) (h2 : w.heap[B]? = some (.cells #[.slice a P.length cap, .int .i64 n] 62 (0, 0))) (h3 : Pts w (.slice a P.length cap) P) (hsort : P.Pairwise (fun x y => leP x y = true)) (hl : P.length ≤ 100000) :
    CallsIn Fence.wide 9 Try.prog 22 #[.pointer (some ⟨B, 0, none⟩), .int .u64 key] w fun e w' => e = .returned (.tuple #[.int .i64 ((idsK key P).head?.getD 0), .bool ((idsK key P).head?.isSome)]) ∧ Ext w w' := by
  have HR := hide h2
  have HP := hide h3
  clear h2 h3
  refine callsIn_of_wp_marks Try.func22 rfl trivial ?_ rfl
  simp only [Try.ntmps22, List.size_toArray, List.length_cons, List.length_nil, Nat.reduceAdd, Nat.reduceSub, Array.replicate_succ, Array.replicate_zero, List.push_toArray, List.append_toArray, List.nil_append, List.cons_append]
  gi_wp2_with (refine ⟨trivial, ?_⟩; gi_at_call 43; refine (round_mk _ _ _ _ _ trivial rfl).mono ?_; rintro e w' ⟨rfl, rfl⟩)
  have hsz : ((((w.alloc (.cells #[.int .i64 0] 3)).alloc (.cells #[.bool false] 4)).alloc (.cells #[.pointer (some ⟨B, 0, none⟩)] 27)).alloc (.cells #[.int .u64 key] 23)).heap.size = w.heap.size + 4 := by simp
  have bI := (((Boxed.new w 3 (.int .i64 0)).alloc (.cells #[.bool false] 4)).alloc (.cells #[.pointer (some ⟨B, 0, none⟩)] 27)).alloc (.cells #[.int .u64 key] 23)
  have bO := ((Boxed.new (w.alloc (.cells #[.int .i64 0] 3)) 4 (.bool false)).alloc (.cells #[.pointer (some ⟨B, 0, none⟩)] 27)).alloc (.cells #[.int .u64 key] 23)
  have bR := (Boxed.new ((w.alloc (.cells #[.int .i64 0] 3)).alloc (.cells #[.bool false] 4)) 27 (.pointer (some ⟨B, 0, none⟩))).alloc (.cells #[.int .u64 key] 23)
  have bK := Boxed.new (((w.alloc (.cells #[.int .i64 0] 3)).alloc (.cells #[.bool false] 4)).alloc (.cells #[.pointer (some ⟨B, 0, none⟩)] 27)) 23 (.int .u64 key)
  simp only [World.size_alloc] at bO bR bK
  have e0 : Ext w ((((w.alloc (.cells #[.int .i64 0] 3)).alloc (.cells #[.bool false] 4)).alloc (.cells #[.pointer (some ⟨B, 0, none⟩)] 27)).alloc (.cells #[.int .u64 key] 23)) :=
    ((((Below.refl _ w).alloc (Nat.le_refl _) _).alloc (by simp) _).alloc (by simp; omega) _).alloc (by simp; omega) _
  obtain ⟨W0, hW0⟩ : ∃ W0, ((((w.alloc (.cells #[.int .i64 0] 3)).alloc (.cells #[.bool false] 4)).alloc (.cells #[.pointer (some ⟨B, 0, none⟩)] 27)).alloc (.cells #[.int .u64 key] 23)) = W0 := ⟨_, rfl⟩
  rw [hW0] at bI bO bR bK e0 hsz ⊢
  clear hW0
  have hreads := ring_reads HR.out HP.out e0 (S := fun k => k = w.heap.size ∨ k = w.heap.size + 1) (fun k hk => by omega) (b1 := w.heap.size + 1 + 1) (b2 := w.heap.size + 1 + 1 + 1) (by omega) (by omega) bR.cell bK.cell
  refine wpIn_rangeFunc_ownH rfl (by decide) (gf := 57) (lb := #[.pointer (some ⟨w.heap.size + 1 + 1, 0, none⟩), .pointer (some ⟨w.heap.size + 1 + 1 + 1, 0, none⟩)]) rfl trivial (enters_of Try.func57 (by kernel_rfl) rfl)
    (seq_stops _ (by decide) (w.heap.size + 1 + 1) (w.heap.size + 1 + 1 + 1) B key a cap P (fun k => k = w.heap.size ∨ k = w.heap.size + 1) hsort hl W0 hreads)
    KpX.trans (fun W l o o' _ hl ho _ => KpX.putObj _ hl ho) (Below.refl _ _) (fun _ => rfl)
    (fun pre W => (((Boxed W w.heap.size 3 (.int .i64 0) ∧ Boxed W (w.heap.size + 1) 4 (.bool false)) ∧ Below w.heap.size w W) ∧ pre = []))
    (fun c pre W => (∃ x, c = .ret ∧ pre = [x] ∧ Boxed W w.heap.size 3 (.int .i64 x) ∧ Boxed W (w.heap.size + 1) 4 (.bool true)) ∧ Below w.heap.size w W)
    (OwnFrom.and (OwnFrom.and (OwnFrom.and (Own.from (boxed_own _ _ _) _) (Own.from (boxed_own _ _ _) _)) (ownFrom_below (Nat.le_refl _) (by omega))) (fun _ _ _ _ hs _ _ => hs))
    (fun c => OwnFrom.and (fun s X Y row hs hg hr => by
      obtain ⟨x, h1, h2, h3, h4⟩ := hs
      exact ⟨x, h1, h2, cells_kept hg (fun r e => (hr r e).2) h3, cells_kept hg (fun r e => (hr r e).2) h4⟩) (ownFrom_below (Nat.le_refl _) (by omega)))
    ⟨⟨⟨bI, bO⟩, e0⟩, rfl⟩
    (fun x a' W => a' = { tmps := #[.pointer (some ⟨B, 0, none⟩), .int .u64 key, undef, undef, .pointer (some ⟨w.heap.size, 0, none⟩), .pointer (some ⟨w.heap.size + 1, 0, none⟩), .int .i64 x, .pointer (some ⟨B, 0, none⟩), .int .u64 key, .func (.func 57) #[] #[.pointer (some ⟨w.heap.size + 1 + 1, 0, none⟩), .pointer (some ⟨w.heap.size + 1 + 1 + 1, 0, none⟩)], .int .i64 x, undef], defers := [] })
    (fun x a' _ X Y row hs hg hr => hs)
    ?assign ?body ?done ?stop
  case assign =>
    rintro l pre x W K ⟨⟨⟨bI1, bO1⟩, hB1⟩, hpre⟩ hK
    unfold encY
    gi_wp2
    refine hK _ _ (KeepsFrom.refl _ _) (KpX.refl _ _) ⟨⟨⟨bI1, bO1⟩, hB1⟩, hpre⟩ rfl
  case body =>
    rintro l pre x a' W hl ⟨r, hr⟩ ⟨⟨⟨bI1, bO1⟩, hB1⟩, rfl⟩ rfl hlt
    have cI := bI1.cell
    have fI := bI1.frozen
    have cO := bO1.cell
    have fO := bO1.frozen
    gi_wp2
    have s1 := bI1.set (.int .i64 x)
    have s2 := box_other s1 (B' := w.heap.size + 1) (by omega) (.bool true)
    have s3 := (box_other bO1 (B' := w.heap.size) (by omega) (.int .i64 x)).set (.bool true)
    exact ⟨((KeepsOthers.setCell _ _ _).from _).trans ((KeepsOthers.setCell _ _ _).from _), ⟨⟨x, rfl, rfl, s2, s3⟩, (hB1.setCell (p := ⟨w.heap.size, 0, none⟩) (Nat.le_refl _) _).setCell (p := ⟨w.heap.size + 1, 0, none⟩) (by show _ ≤ w.heap.size + 1; omega) _⟩⟩
  case done =>
    rintro D ys W hD rfl ⟨⟨⟨bI1, bO1⟩, hB1⟩, hpre⟩ hK
    have cI := bI1.cell
    have fI := bI1.frozen
    have cO := bO1.cell
    have fO := bO1.frozen
    have HPRE := hide hpre; clear hpre
    gi_wp2
    have s1 := bI1.set (.int .i64 0)
    have s2 := box_other s1 (B' := w.heap.size + 1) (by omega) (.bool false)
    have s3 := (box_other bO1 (B' := w.heap.size) (by omega) (.int .i64 0)).set (.bool false)
    have hK2 : ((W.setCell ⟨w.heap.size, 0, none⟩ (.int .i64 0)).setCell ⟨w.heap.size + 1, 0, none⟩ (.bool false)).heap[D]? = some (.deferred (some [])) := (Below.heap_setCell _ _ _ D (by simp; omega)).trans ((Below.heap_setCell W _ _ D (by simp; omega)).trans hK)
    have c2 : (((W.setCell ⟨w.heap.size, 0, none⟩ (.int .i64 0)).setCell ⟨w.heap.size + 1, 0, none⟩ (.bool false)).putObj D (.deferred none)).cell? ⟨w.heap.size, 0, none⟩ = some (.int .i64 0) := (World.cell?_of_block (World.putObj_heap_other (k := w.heap.size) (by omega))).trans s2.cell
    have c3 : (((W.setCell ⟨w.heap.size, 0, none⟩ (.int .i64 0)).setCell ⟨w.heap.size + 1, 0, none⟩ (.bool false)).putObj D (.deferred none)).cell? ⟨w.heap.size + 1, 0, none⟩ = some (.bool false) := (World.cell?_of_block (World.putObj_heap_other (k := w.heap.size + 1) (by omega))).trans s3.cell
    refine ⟨by simp, .inl ⟨_, _, rfl, run_takeDeferred hK2, ?_⟩⟩
    exact ⟨.tuple #[.int .i64 0, .bool false], by simp [results, Try.results22, go_sem, c2, c3], by rw [HPRE.out]; rfl,
      ((hB1.setCell (p := ⟨w.heap.size, 0, none⟩) (Nat.le_refl _) _).setCell (p := ⟨w.heap.size + 1, 0, none⟩) (by show _ ≤ w.heap.size + 1; omega) _).trans (belowK_b (w := w) (Nat.le_refl _) _ D _ _ (by omega) hK2 rfl rfl)⟩
  case stop =>
    rintro D c pre W hD ⟨k, hk, rfl⟩ ⟨⟨x, rfl, hp, h3, h4⟩, hB1⟩ hK
    have hhead : (idsK key P).head? = some x := by
      cases hid : idsK key P with
      | nil => rw [hid] at hp; simp at hp
      | cons y ys =>
        rw [hid] at hp
        cases k with
        | zero => simp at hp
        | succ k => simp at hp; rw [hp.1]; rfl
    have HH := hide hhead; clear hhead hp
    gi_wp2
    have c2 : (W.putObj D (.deferred none)).cell? ⟨w.heap.size, 0, none⟩ = some (.int .i64 x) := (World.cell?_of_block (World.putObj_heap_other (k := w.heap.size) (by omega))).trans h3.cell
    have c3 : (W.putObj D (.deferred none)).cell? ⟨w.heap.size + 1, 0, none⟩ = some (.bool true) := (World.cell?_of_block (World.putObj_heap_other (k := w.heap.size + 1) (by omega))).trans h4.cell
    refine ⟨by simp, .inl ⟨_, _, rfl, run_takeDeferred hK, ?_⟩⟩
    exact ⟨.tuple #[.int .i64 x, .bool true], by simp [results, Try.results22, go_sem, c2, c3], by rw [HH.out]; rfl,
      hB1.trans (belowK_b (w := w) (Nat.le_refl _) W D _ _ (by omega) hK rfl rfl)⟩
end Go.Proofs.Ytfmoiepjbkhjfaa
