/- split.Pick. -/
import Derived.Test.YtgeddiondjoedaaSplitC
namespace Go.Proofs.Ytgeddiondjoedaa
open Go.RowKit Go.Shelf
attribute [local go_sem] Oper.semAt_some

theorem pickR_skip (ps : List (Int × Int)) (r : Int) (k : Nat) (hk : k ≤ ps.length) (h : ∀ i (hi : i < ps.length), i < k → ¬ r < sumW (ps.take i) + ps[i].2) : pickR ps r = pickR (ps.drop k) (r - sumW (ps.take k)) := by
  induction k with
  | zero => simp [sumW]
  | succ k ih =>
    have hlt : k < ps.length := by omega
    rw [ih (by omega) (fun i hi hik => h i hi (by omega)), pickR_drop ps k hlt, if_neg (by have := h k hlt (by omega); omega), sumW_snoc ps k hlt]
    congr 1; omega
theorem seqP_mem (ps : List (Int × Int)) (k : Nat) (hk : k ≤ ps.length) (i : Nat) (hi : i < ps.length) (hik : i < k) : (sumW (ps.take i), ps[i]) ∈ seqP ps k := by
  simp only [seqP, List.mem_map, List.mem_range]
  exact ⟨i, hik, by simp [hi]⟩
def overR (r : Int) (x : Int × (Int × Int)) : Prop := r < wrap64 (x.1 + x.2.2)
theorem overR_iff (ps : List (Int × Int)) (hb : SumFits ps) (r : Int) (i : Nat) (hi : i < ps.length) : overR r (sumW (ps.take i), ps[i]) ↔ r < sumW (ps.take i) + ps[i].2 := by
  have h := hb (i+1) hi
  rw [sumW_snoc ps i hi] at h
  show r < wrap64 (sumW (ps.take i) + ps[i].2) ↔ _
  rw [IntWalk.wrap64_in _ ⟨by omega, by omega⟩]
theorem pick_none (ps : List (Int × Int)) (hb : SumFits ps) (r : Int) (h : ∀ x ∈ seqP ps ps.length, ¬ overR r x) : pickR ps r = 0 := by
  rw [pickR_skip ps r ps.length (Nat.le_refl _) (fun i hi _ => by rw [← overR_iff ps hb r i hi]; exact h _ (seqP_mem ps _ (Nat.le_refl _) i hi hi)), List.drop_length]; rfl
theorem pick_hit (ps : List (Int × Int)) (hb : SumFits ps) (r : Int) (k : Nat) (hk : k ≤ ps.length) (p : List (Int × (Int × Int))) (x : Int × (Int × Int)) (he : p ++ [x] = seqP ps k) (h : ∀ y ∈ p, ¬ overR r y) (hx : overR r x) : pickR ps r = x.2.1 := by
  cases k with
  | zero => simp [seqP] at he
  | succ k =>
    have hlt : k < ps.length := by omega
    rw [seqP_succ] at he
    obtain ⟨rfl, e2⟩ := List.append_inj' he rfl
    simp [hlt] at e2
    subst e2
    rw [pickR_skip ps r k (by omega) (fun i hi hik => by rw [← overR_iff ps hb r i hi]; exact h _ (seqP_mem ps _ (by omega) i hi hik)), pickR_drop ps k hlt]
    rw [overR_iff ps hb r k hlt] at hx
    rw [if_pos (by omega)]

set_option maxRecDepth 100000 in
set_option maxHeartbeats 4000000 in
theorem pick_in (ps : List (Int × Int)) (v : Value) (d : Int) (w : World) (hs : Parts w v ps) (hb : SumFits ps) (hd : U64 d) :
    CallsIn Fence.wide 9 Try.prog 17 #[v, .int .u64 d] w fun e w' => e = .returned (.int .i64 (pick ps d)) ∧ Ext w w' := by
  unfold U64 at hd
  have hS := hb ps.length (Nat.le_refl _)
  rw [List.take_length] at hS
  obtain ⟨hl', a, cap, rfl⟩ := hs.shape
  have hblk : ∀ a' n c, Value.slice a ps.length cap = .slice (some a') n c → 0 < ps.length → a'.block < w.heap.size := by
    intro a' n c e hp
    obtain ⟨b, off, ha, hb, _⟩ := parts_at hs 0 hp
    cases e; cases ha; exact hb
  have HK := hide hblk; clear hblk
  have HC := hide hs; clear hs
  have HB := hide hb; clear hb
  have e0 : Ext w (w.alloc (.cells #[.int .i64 0] 3)) := (Below.refl _ w).alloc (Nat.le_refl _) _
  have eR : ∀ w1 : World, Ext (w.alloc (.cells #[.int .i64 0] 3)) w1 → Boxed w1 w.heap.size 3 (.int .i64 0) := fun w1 h =>
    (h.block w.heap.size (by simp)).trans (Boxed.new w 3 (.int .i64 0))
  have hsum : ∀ R, (∀ w1, Ext (w.alloc (.cells #[.int .i64 0] 3)) w1 → R (.returned (.int .i64 (sumW ps))) w1) → CallsIn Fence.wide 8 Try.prog 12 #[.slice a ps.length cap] (w.alloc (.cells #[.int .i64 0] 3)) R :=
    fun R h => (callsIn_wide.2 (sum_any ps _ _ (HC.out.ext e0) HB.out)).mono (by rintro e w1 ⟨rfl, h1⟩; exact h w1 h1)
  have HSUM := hide hsum; clear hsum
  have HER := hide eR; clear eR
  refine callsIn_of_wp_marks Try.func17 rfl trivial ?_ rfl
  simp only [Try.ntmps17, List.size_toArray, List.length_cons, List.length_nil, Nat.reduceAdd, Nat.reduceSub, Array.replicate_succ, Array.replicate_zero, List.push_toArray, List.append_toArray, List.nil_append, List.cons_append]
  by_cases h1 : sumW ps < 1
  · gi_wp2_with fail
    refine ⟨trivial, HSUM.out _ ?_⟩
    intro w1 hE
    have bR := HER.out w1 hE
    have cR := bR.cell
    have fR := bR.frozen
    gi_wp2
    have cR' := (bR.set (.int .i64 0)).cell
    exact ⟨.int .i64 0, by simp [results, Try.results17, go_sem, cR'], ret_int (by rw [pick, if_pos h1]), (e0.trans hE).setCell (p := ⟨w.heap.size, 0, none⟩) (Nat.le_refl _) _⟩
  · have h1' : 1 ≤ sumW ps := by omega
    have hm : (sumW ps) % 18446744073709551616 = sumW ps := Int.emod_eq_of_lt (by omega) (by omega)
    have hr0 : 0 ≤ d % sumW ps := Int.emod_nonneg _ (by omega)
    have hr1 : d % sumW ps < sumW ps := Int.emod_lt_of_pos _ (by omega)
    gi_wp2_with fail
    refine ⟨trivial, HSUM.out _ ?_⟩
    intro w1 hE
    have bR := HER.out w1 hE
    have cR := bR.cell
    have fR := bR.frozen
    gi_wp2_with (refine ⟨trivial, ?_⟩; gi_at_call 22; refine (parts_mk _ _ _ _ _ _ trivial rfl).mono ?_; rintro e w' ⟨rfl, rfl⟩)
    have hEw := e0.trans hE
    have hw1 := hEw.size
    have bRb := (bR.alloc (.cells #[.int .i64 (d % sumW ps)] 3)).alloc (.cells #[.slice a ps.length cap] 22)
    have bT := (Boxed.new w1 3 (.int .i64 (d % sumW ps))).alloc (.cells #[.slice a ps.length cap] 22)
    have bA := Boxed.new (w1.alloc (.cells #[.int .i64 (d % sumW ps)] 3)) 22 (.slice a ps.length cap)
    simp only [World.size_alloc] at bA
    have hB0 : Below w.heap.size w ((w1.alloc (.cells #[.int .i64 (d % sumW ps)] 3)).alloc (.cells #[.slice a ps.length cap] 22)) := (hEw.alloc hw1 _).alloc (by simp; omega) _
    have hsz : ((w1.alloc (.cells #[.int .i64 (d % sumW ps)] 3)).alloc (.cells #[.slice a ps.length cap] 22)).heap.size = w1.heap.size + 2 := by simp
    have hRlt := bR.lt
    obtain ⟨W0, hW0⟩ : ∃ W0, (w1.alloc (.cells #[.int .i64 (d % sumW ps)] 3)).alloc (.cells #[.slice a ps.length cap] 22) = W0 := ⟨_, rfl⟩
    rw [hW0] at bRb bT bA hB0 hsz ⊢
    clear hW0 cR fR bR hm
    have hfin : pick ps d = pickR ps (d % sumW ps) := by rw [pick, if_neg (by omega)]
    have HF := hide hfin; clear hfin
    refine wpIn_rangeFunc_ownH rfl (by decide) (gf := 23) (lb := #[.pointer (some ⟨w1.heap.size + 1, 0, none⟩)]) rfl trivial (enters_of Try.func23 (by kernel_rfl) rfl)
      (parts_stops Fence.wide _ trivial rfl (by decide) (w1.heap.size + 1) w.heap.size a cap ps HB.out W0 (by omega) bA.cell (by omega)
        (fun W W' hW hk => Parts.kpc ((HC.out.ext hB0).ext hW) hk (fun a' n c e hne => by
          have := HK.out a' n c e (List.length_pos_iff.2 hne); omega)))
      KpC.trans (fun W l o o' _ hl ho _ => KpC.putObj _ hl ho) (Below.refl _ _) (fun _ => rfl)
      (fun pre W => ((Boxed W w.heap.size 3 (.int .i64 0) ∧ Boxed W w1.heap.size 3 (.int .i64 (d % sumW ps))) ∧ Below w.heap.size w W) ∧ ∀ x ∈ pre, ¬ overR (d % sumW ps) x)
      (fun c pre W => ((∃ p x, c = .ret ∧ pre = p ++ [x] ∧ (∀ y ∈ p, ¬ overR (d % sumW ps) y) ∧ overR (d % sumW ps) x ∧ Boxed W w.heap.size 3 (.int .i64 x.2.1))) ∧ Below w.heap.size w W)
      (OwnFrom.and (OwnFrom.and (OwnFrom.and (Own.from (boxed_own _ _ _) _) (Own.from (boxed_own _ _ _) _)) (ownFrom_below (Nat.le_refl _) (by omega))) (fun _ _ _ _ hs _ _ => hs))
      (fun c => OwnFrom.and (fun s X Y row hs hg hr => by
        obtain ⟨p, x, h1, h2, h3, h4, h5⟩ := hs
        exact ⟨p, x, h1, h2, h3, h4, cells_kept hg (fun r e => (hr r e).2) h5⟩) (ownFrom_below (Nat.le_refl _) (by omega)))
      ⟨⟨⟨bRb, bT⟩, hB0⟩, fun x hx => by simp at hx⟩
      (fun x a' W => ∃ Bx, w1.heap.size < Bx ∧ W.heap[Bx]? = some (.cells #[.int .i64 x.2.1, .int .i64 x.2.2] 25 (0, 0)) ∧ a' = { tmps := #[.slice a ps.length cap, .int .u64 d, undef, undef, .pointer (some ⟨w.heap.size, 0, none⟩), .int .i64 (sumW ps), .pointer (some ⟨w1.heap.size, 0, none⟩), .int .i64 x.1, .pointer (some ⟨Bx, 0, none⟩), .slice a ps.length cap, .int .i64 (sumW ps), .int .i64 (sumW ps), .bool (decide (sumW ps < 1)), .int .u64 d, .int .i64 (sumW ps), .int .u64 (sumW ps), .int .u64 (d % sumW ps), .int .i64 (d % sumW ps), .slice a ps.length cap, .func (.func 23) #[] #[.pointer (some ⟨w1.heap.size + 1, 0, none⟩)], .int .i64 x.1, .agg #[.int .i64 x.2.1, .int .i64 x.2.2], undef, undef, undef, undef, undef, undef, undef, undef], defers := [] })
      (fun x a' _ X Y row hs hg hr => by
        obtain ⟨Bx, h1, h2, h3⟩ := hs
        exact ⟨Bx, h1, cells_kept hg (fun r e => (hr r e).2) h2, h3⟩)
      ?assign ?body ?done ?stop
    case assign =>
      rintro l pre x W K ⟨⟨⟨bS1, bT1⟩, hB1⟩, hno⟩ hK
      have hsW := hB1.size
      unfold encS
      gi_wp2
      refine hK _ _ ((KeepsOthers.alloc _ _).from _) (KpC.alloc _ _ _) ⟨⟨⟨bS1.alloc _, bT1.alloc _⟩, hB1.alloc hB1.size _⟩, hno⟩ ⟨W.heap.size, bT1.lt, ?_, rfl⟩
      exact World.alloc_heap_new W _
    case body =>
      rintro l pre x a' W hl ⟨r, hr⟩ ⟨⟨⟨bS1, bT1⟩, hB1⟩, hno⟩ ⟨Bx, hBx, bX, rfl⟩ hlt
      have cS := bS1.cell
      have fS := bS1.frozen
      have cT := bT1.cell
      have cX0 : W.cell? ⟨Bx, 0, none⟩ = some (.int .i64 x.2.1) := by simp [World.cell?, bX]
      have cX : W.cell? ⟨Bx, 1, none⟩ = some (.int .i64 x.2.2) := by simp [World.cell?, bX]
      have HNO := hide hno; clear hno
      by_cases hov : d % sumW ps < wrap64 (x.1 + x.2.2)
      · have HO := hide hov
        gi_wp2
        exact ⟨(KeepsOthers.setCell _ _ _).from _, ⟨⟨pre, x, rfl, rfl, HNO.out, HO.out, bS1.set _⟩, hB1.setCell (p := ⟨w.heap.size, 0, none⟩) (Nat.le_refl _) _⟩⟩
      · have HO := hide hov
        have hall : ∀ y ∈ pre ++ [x], ¬ overR (d % sumW ps) y := by
          intro y hy
          rcases List.mem_append.1 hy with h | h
          · exact HNO.out y h
          · rw [List.mem_singleton.1 h]; exact HO.out
        have HALL := hide hall; clear hall
        gi_wp2
        exact ⟨KeepsFrom.refl _ _, KpC.refl _ _, ⟨⟨⟨bS1, bT1⟩, hB1⟩, by have := HALL.out; simpa using this⟩⟩
    case done =>
      rintro D ys W hD rfl ⟨⟨⟨bS1, bT1⟩, hB1⟩, hno⟩ hK
      have cS := bS1.cell
      have fS := bS1.frozen
      have HNO := hide hno; clear hno
      gi_wp2
      have hK2 : (W.setCell ⟨w.heap.size, 0, none⟩ (.int .i64 0)).heap[D]? = some (.deferred (some [])) := (Below.heap_setCell W _ _ D (by simp; omega)).trans hK
      have b2 := bS1.set (.int .i64 0)
      have c2 : ((W.setCell ⟨w.heap.size, 0, none⟩ (.int .i64 0)).putObj D (.deferred none)).cell? ⟨w.heap.size, 0, none⟩ = some (.int .i64 0) := (World.cell?_of_block (World.putObj_heap_other (k := w.heap.size) (by omega))).trans b2.cell
      refine ⟨by simp, .inl ⟨_, _, rfl, run_takeDeferred hK2, ?_⟩⟩
      exact ⟨.int .i64 0, by simp [results, Try.results17, go_sem, c2], ret_int (by rw [HF.out, pick_none ps HB.out _ HNO.out]),
        (hB1.setCell (p := ⟨w.heap.size, 0, none⟩) (Nat.le_refl _) _).trans (belowK_b (w := w) (Nat.le_refl _) _ D _ _ (by omega) hK2 rfl rfl)⟩
    case stop =>
      rintro D c pre W hD ⟨k, hk, rfl⟩ ⟨⟨p, x, rfl, hp, h3, h4, b2⟩, hB1⟩ hK
      gi_wp2
      have c2 : (W.putObj D (.deferred none)).cell? ⟨w.heap.size, 0, none⟩ = some (.int .i64 x.2.1) := (World.cell?_of_block (World.putObj_heap_other (k := w.heap.size) (by omega))).trans b2.cell
      refine ⟨by simp, .inl ⟨_, _, rfl, run_takeDeferred hK, ?_⟩⟩
      exact ⟨.int .i64 x.2.1, by simp [results, Try.results17, go_sem, c2], ret_int (by rw [HF.out, pick_hit ps HB.out _ k hk p x hp.symm h3 h4]),
        hB1.trans (belowK_b (w := w) (Nat.le_refl _) _ D _ _ (by omega) hK rfl rfl)⟩
theorem pick_any (ps : List (Int × Int)) (v : Value) (d : Int) (w : World) (hs : Parts w v ps) (hb : SumFits ps) (hd : U64 d) :
    Calls Try.prog 17 #[v, .int .u64 d] w fun e w' => e = .returned (.int .i64 (pick ps d)) ∧ Ext w w' := callsIn_wide.1 (pick_in ps v d w hs hb hd)
end Go.Proofs.Ytgeddiondjoedaa
