
/- (*Ring).Row. -/
import Derived.Maps.OwnIn
import Derived.Test.YtoncfogihiapiaaRingO
namespace Go.Proofs.Ytoncfogihiapiaa
open Go.ChangeShapes Go.WideShapes Go.ChangeAt Go.RowKit Go.Sort Go.Shelf
attribute [local go_sem] Oper.semAt_some
theorem own_kept {X Y : World} {row : Option Nat} (hg : X.grownBy Y row) (hr : ∀ r, row = some r → ∃ o : Obj, X.heap[r]? = some o ∧ o.isCells = false) {base : Nat} {e : TypeId} {s n : Nat} {v : Value} {xs : List Value} (h : X.ownsRow base e s v n xs) : Y.ownsRow base e s v n xs := by
  refine ⟨h.1, ?_⟩
  rcases h.2 with hn | ⟨g, cap, cur, rfl, hb, hgg, rest⟩
  · exact .inl hn
  · exact .inr ⟨g, cap, cur, rfl, hb, cells_kept hg hr hgg, rest⟩
theorem own_base {X : World} {base base' : Nat} (hb : base' ≤ base) {e : TypeId} {s n : Nat} {v : Value} {xs : List Value} (h : X.ownsRow base e s v n xs) : X.ownsRow base' e s v n xs := by
  refine ⟨h.1, ?_⟩
  rcases h.2 with hn | ⟨g, cap, cur, rfl, hbg, rest⟩
  · exact .inl hn
  · exact .inr ⟨g, cap, cur, rfl, by omega, rest⟩
theorem pigeon (l E : List Int) (hn : l.Nodup) (hs : ∀ x ∈ l, x ∈ E) (hl : E.length ≤ l.length) : ∀ x ∈ E, x ∈ l := by
  induction l generalizing E with
  | nil => intro x hx; have h0 : E = [] := List.eq_nil_of_length_eq_zero (by simpa using hl); rw [h0] at hx; exact hx
  | cons a l ih =>
    intro x hx
    have ha := hs a (by simp)
    obtain ⟨h1, h2⟩ := List.nodup_cons.1 hn
    by_cases hxa : x = a
    · simp [hxa]
    · refine List.mem_cons_of_mem _ (ih (E.erase a) h2 (fun y hy => ?_) ?_ x ((List.mem_erase_of_ne hxa).2 hx))
      · exact (List.mem_erase_of_ne (fun e => h1 (by rw [← e]; exact hy))).2 (hs y (List.mem_cons_of_mem _ hy))
      · rw [List.length_erase_of_mem ha]; simp at hl; omega
theorem putObj_grown {W : World} {D : Nat} {o o' : Obj} (h : W.heap[D]? = some o) : W.grownBy (W.putObj D o') (some D) :=
  ⟨rfl, rfl, rfl, by simp, fun k hk hne => World.putObj_heap_other (fun e => hne (by rw [e]))⟩
theorem row_ne {v : Value} {g B : Nat} (hv : v.ownBlock = some g) (hne : g ≠ B) : some B ≠ v.ownBlock := by
  rw [hv]; intro e; exact hne (Option.some.inj e).symm
theorem own_cells {X : World} {base : Nat} {e : TypeId} {s n : Nat} {v : Value} {xs : List Value} (h : X.ownsRow base e s v n xs) : ∀ (j : Nat) (o : Obj), v.ownBlock = some j → X.heap[j]? = some o → o.isCells = true := by
  intro j o hj ho
  rcases h.2 with ⟨rfl, _⟩ | ⟨g, cap, cur, rfl, hb, hgg, rest⟩
  · simp [Value.ownBlock] at hj
  · simp [Value.ownBlock] at hj
    subst hj
    rw [hgg] at ho; cases ho; rfl
theorem own_set8 {X : World} {base B : Nat} {e t : TypeId} {s n : Nat} {v u : Value} {xs : List Value} (h : X.ownsRow base e s v n xs) (hb : Boxed X B t u) (u' : Value) (hte : t ≠ e := by decide) : (X.setCell ⟨B, 0, none⟩ u').ownsRow base e s v n xs := by
  refine ⟨h.1, ?_⟩
  rcases h.2 with hn | ⟨g, cap, cur, rfl, hbg, hgg, rest⟩
  · exact .inl hn
  · refine .inr ⟨g, cap, cur, rfl, hbg, (Below.heap_setCell X _ u' g (fun e' => ?_)).trans hgg, rest⟩
    have hb' : X.heap[B]? = some (.cells #[u] t (0, 0)) := hb
    simp only at e'
    subst e'
    rw [hb'] at hgg
    injection hgg with hgg
    injection hgg with _ h2 _
    exact hte h2
/-- what stands while a row is made -/
def RowJ (s B : Nat) (pre : List Int) (W : World) : Prop :=
  ∃ v g, v.ownBlock = some g ∧ (s < g ∧ g ≠ s + 1 + 1 ∧ g ≠ s + 1 + 1 + 1 ∧ g ≠ s + 1 + 1 + 1 + 1) ∧ Boxed W (s + 1 + 1) 28 v ∧ W.ownsRow (s + 1) 3 1 v (firsts pre).length ((firsts pre).flatMap encI) ∧ Boxed W s 37 (.pointer (some ⟨B, 0, none⟩)) ∧ (firsts pre).length ≤ pre.length
theorem RowJ.kept {s B : Nat} {pre : List Int} {X Y : World} {row : Option Nat} (h : RowJ s B pre X) (hg : X.grownBy Y row) (hr : ∀ r, row = some r → ∃ o : Obj, X.heap[r]? = some o ∧ o.isCells = false) : RowJ s B pre Y := by
  obtain ⟨v, g, h1, h2, h3, h4, h5, h6⟩ := h
  exact ⟨v, g, h1, h2, cells_kept hg hr h3, own_kept hg hr h4, cells_kept hg hr h5, h6⟩
set_option maxRecDepth 100000 in
set_option maxHeartbeats 4000000 in
theorem row_in (key : Int) (B n : Nat) (a : Option Addr) (cap : Nat) (P : List (Int × Int)) (E : List Int) (w : World) (h2 : w.heap[B]? = some (.cells #[.slice a P.length cap, .int .i64 n] 66 (0, 0))) (h3 : Pts w (.slice a P.length cap) P) (hsort : P.Pairwise (fun x y => leP x y = true)) (hl : P.length ≤ 100000)
    (hn : n ≤ 1000) (hE : E.length = n) (hsub : ∀ x ∈ idsK key P, x ∈ E) :
    CallsIn Fence.wide 9 Try.prog 30 #[.pointer (some ⟨B, 0, none⟩), .int .u64 key] w fun e w' => ∃ v, e = .returned v ∧ w'.ownsRow w.heap.size 3 1 v (rowOf key P).length ((rowOf key P).flatMap encI) ∧ Ext w w' := by
  have HR := hide h2
  have HP := hide h3
  have cB1 := cell_of2' h2
  have hBl : B < w.heap.size := (Array.getElem?_eq_some_iff.1 h2).1
  clear h2 h3
  have hn0 : (0 : Int) ≤ (n : Int) := Int.natCast_nonneg _
  have hn1 : (n : Int) ≤ 1000 := by omega
  refine callsIn_of_wp_marks Try.func30 rfl trivial ?_ rfl
  simp only [Try.ntmps30, List.size_toArray, List.length_cons, List.length_nil, Nat.reduceAdd, Nat.reduceSub, Array.replicate_succ, Array.replicate_zero, List.push_toArray, List.append_toArray, List.nil_append, List.cons_append]
  obtain ⟨i0, hi, hz0, hz1, hz2⟩ := info_parts' Try.infoI
  obtain ⟨CS, hcs, hmk⟩ : ∃ CS : Array Value, CS.size = n * 1 ∧ ∀ u : World, (Instr.makeSlice 28 (.int .i64 0) (.int .i64 n)).run Try.prog u = .ok (.slice (some ⟨u.heap.size, 0, none⟩) 0 n) (u.alloc (.cells CS 3)) :=
    ⟨madeCells (Value.int .i64 0).cells (n * i0.size), by rw [size_madeCells, hz1], fun u => by simpa using run_makeSlice (P := Try.prog) u 28 3 i0 _ Try.underlying28 hi hz0 .i64 .i64 0 n (by omega) (by omega) (by rw [hz1]; omega) (by rw [hz2]; omega) (by omega)⟩
  gi_wp2_with (refine ⟨trivial, ?_⟩; gi_at_call 51; refine (round_mk _ _ _ _ _ trivial rfl).mono ?_; rintro e w' ⟨rfl, rfl⟩)
  have bR2 := ((((Boxed.new w 37 (.pointer (some ⟨B, 0, none⟩))).alloc (.cells CS 3)).alloc (.cells #[.slice (some ⟨w.heap.size + 1, 0, none⟩) 0 n] 28)).alloc (.cells #[.pointer (some ⟨B, 0, none⟩)] 37)).alloc (.cells #[.int .u64 key] 29)
  have bV := ((Boxed.new ((w.alloc (.cells #[.pointer (some ⟨B, 0, none⟩)] 37)).alloc (.cells CS 3)) 28 (.slice (some ⟨w.heap.size + 1, 0, none⟩) 0 n)).alloc (.cells #[.pointer (some ⟨B, 0, none⟩)] 37)).alloc (.cells #[.int .u64 key] 29)
  have bR := (Boxed.new (((w.alloc (.cells #[.pointer (some ⟨B, 0, none⟩)] 37)).alloc (.cells CS 3)).alloc (.cells #[.slice (some ⟨w.heap.size + 1, 0, none⟩) 0 n] 28)) 37 (.pointer (some ⟨B, 0, none⟩))).alloc (.cells #[.int .u64 key] 29)
  have bK := Boxed.new ((((w.alloc (.cells #[.pointer (some ⟨B, 0, none⟩)] 37)).alloc (.cells CS 3)).alloc (.cells #[.slice (some ⟨w.heap.size + 1, 0, none⟩) 0 n] 28)).alloc (.cells #[.pointer (some ⟨B, 0, none⟩)] 37)) 29 (.int .u64 key)
  have ow : ((((w.alloc (.cells #[.pointer (some ⟨B, 0, none⟩)] 37)).alloc (.cells CS 3)).alloc (.cells #[.slice (some ⟨w.heap.size + 1, 0, none⟩) 0 n] 28)).alloc (.cells #[.pointer (some ⟨B, 0, none⟩)] 37) |>.alloc (.cells #[.int .u64 key] 29)).ownsRow (w.heap.size + 1) 3 1 (.slice (some ⟨w.heap.size + 1, 0, none⟩) 0 n) 0 [] := by
    have := World.ownsRow_made (base := w.heap.size + 1) (e := 3) (size := 1) (w.alloc (.cells #[.pointer (some ⟨B, 0, none⟩)] 37)) CS n (by simp) (by unfold maxLen; omega) hcs
    simp only [World.size_alloc] at this
    exact ((this.alloc _).alloc _).alloc _
  simp only [World.size_alloc] at bV bR bK
  have e0 : Ext w (((((w.alloc (.cells #[.pointer (some ⟨B, 0, none⟩)] 37)).alloc (.cells CS 3)).alloc (.cells #[.slice (some ⟨w.heap.size + 1, 0, none⟩) 0 n] 28)).alloc (.cells #[.pointer (some ⟨B, 0, none⟩)] 37)).alloc (.cells #[.int .u64 key] 29)) :=
    (((((Below.refl _ w).alloc (Nat.le_refl _) _).alloc (by simp) _).alloc (by simp; omega) _).alloc (by simp; omega) _).alloc (by simp; omega) _
  have hsz : (((((w.alloc (.cells #[.pointer (some ⟨B, 0, none⟩)] 37)).alloc (.cells CS 3)).alloc (.cells #[.slice (some ⟨w.heap.size + 1, 0, none⟩) 0 n] 28)).alloc (.cells #[.pointer (some ⟨B, 0, none⟩)] 37)).alloc (.cells #[.int .u64 key] 29)).heap.size = w.heap.size + 5 := by simp
  obtain ⟨W0, hW0⟩ : ∃ W0, (((((w.alloc (.cells #[.pointer (some ⟨B, 0, none⟩)] 37)).alloc (.cells CS 3)).alloc (.cells #[.slice (some ⟨w.heap.size + 1, 0, none⟩) 0 n] 28)).alloc (.cells #[.pointer (some ⟨B, 0, none⟩)] 37)).alloc (.cells #[.int .u64 key] 29)) = W0 := ⟨_, rfl⟩
  rw [hW0] at bR2 bV bR bK ow e0 hsz ⊢
  clear hW0 hmk hcs
  have hreads := ring_reads HR.out HP.out e0 (S := fun k => w.heap.size < k ∧ k ≠ w.heap.size + 1 + 1 + 1 ∧ k ≠ w.heap.size + 1 + 1 + 1 + 1) (fun k hk => by omega) (b1 := w.heap.size + 1 + 1 + 1) (b2 := w.heap.size + 1 + 1 + 1 + 1) (by omega) (by omega) bR.cell bK.cell
  refine wpIn_rangeFunc_ownH rfl (by decide) (gf := 61) (lb := #[.pointer (some ⟨w.heap.size + 1 + 1 + 1, 0, none⟩), .pointer (some ⟨w.heap.size + 1 + 1 + 1 + 1, 0, none⟩)]) rfl trivial (enters_of Try.func61 (by kernel_rfl) rfl)
    (seq_stops _ (by decide) (w.heap.size + 1 + 1 + 1) (w.heap.size + 1 + 1 + 1 + 1) B key a cap P (fun k => w.heap.size < k ∧ k ≠ w.heap.size + 1 + 1 + 1 ∧ k ≠ w.heap.size + 1 + 1 + 1 + 1) hsort hl W0 hreads)
    KpX.trans (fun W l o o' _ hl ho _ => KpX.putObj _ hl ho) (Below.refl _ _) (fun _ => rfl)
    (fun pre W => RowJ w.heap.size B pre W ∧ Below w.heap.size w W)
    (fun c pre W => ((RowJ w.heap.size B pre W ∧ Below w.heap.size w W) ∧ ((firsts pre).length = n ∧ c = .exit 0)))
    (OwnFrom.and (fun s X Y row hs hg hr => RowJ.kept hs hg (fun r e => (hr r e).2)) (ownFrom_below (Nat.le_refl _) (by omega)))
    (fun c => OwnFrom.and (OwnFrom.and (fun s X Y row hs hg hr => RowJ.kept hs hg (fun r e => (hr r e).2)) (ownFrom_below (Nat.le_refl _) (by omega))) (fun _ _ _ _ hs _ _ => hs))
    ⟨⟨_, w.heap.size + 1, rfl, by omega, bV, ow, bR2, by simp [firsts]⟩, e0⟩
    (fun x a' W => a' = { tmps := #[.pointer (some ⟨B, 0, none⟩), .int .u64 key, .pointer (some ⟨w.heap.size, 0, none⟩), undef, .slice none 0 0, .pointer (some ⟨w.heap.size + 1 + 1, 0, none⟩), .int .i64 x, .pointer (some ⟨B, 0, none⟩), .pointer (some ⟨B, 0, none⟩), .pointer (some ⟨B, 1, none⟩), .int .i64 n, .slice (some ⟨w.heap.size + 1, 0, none⟩) 0 n, .pointer (some ⟨B, 0, none⟩), .int .u64 key, .func (.func 61) #[] #[.pointer (some ⟨w.heap.size + 1 + 1 + 1, 0, none⟩), .pointer (some ⟨w.heap.size + 1 + 1 + 1 + 1, 0, none⟩)], .int .i64 x, undef, undef, undef, undef, undef, undef, undef, undef, undef, undef, undef, undef, undef, undef, undef, undef], defers := [] })
    (fun x a' _ X Y row hs hg hr => hs)
    ?assign ?body ?done ?stop
  case assign =>
    rintro l pre x W K ⟨hJ, hB1⟩ hK
    unfold encY
    gi_wp2
    exact hK _ _ (KeepsFrom.refl _ _) (KpX.refl _ _) ⟨hJ, hB1⟩ rfl
  case body =>
    rintro l pre x a' W hl ⟨r, hr⟩ ⟨⟨v, g, hv, hg, bV1, own1, bR1, hle⟩, hB1⟩ rfl hlt
    have cV := bV1.cell
    have fV := bV1.frozen
    have cR := bR1.cell
    have cN : W.cell? ⟨B, 1, none⟩ = some (.int .i64 n) := (hB1.cell (p := ⟨B, 1, none⟩) hBl).trans cB1
    obtain ⟨a1, c1, rfl⟩ := own_shape own1
    have hI := own_ints own1 (by omega)
    have hadd : firsts (pre ++ [x]) = addF (firsts pre) x := firsts_snoc pre x
    obtain ⟨F, hF⟩ : ∃ F, firsts pre = F := ⟨_, rfl⟩
    rw [hF] at hI hadd hle own1 cV bV1 hv
    have hFm : (F.length : Int) ≤ 100000 := by omega
    have HI := hide hI
    have HADD := hide hadd
    have OWN := hide own1
    have HFF := hide hF
    clear hI hadd hF
    by_cases hx : x ∈ F
    · have hd : decide (x ∈ F) = true := by simp [hx]
      have HD := hide hd
      have haf : addF F x = F := by rw [addF, if_pos hx]
      have HAF := hide haf
      clear hd haf hx
      have hle2 : F.length ≤ (pre ++ [x]).length := by simp; omega
      have hJ2 : RowJ w.heap.size B (pre ++ [x]) W := ⟨_, g, hv, hg, bV1, by rw [HADD.out, HAF.out]; exact OWN.out, bR1, by rw [HADD.out, HAF.out]; exact hle2⟩
      have HJ2 := hide hJ2
      clear hJ2
      by_cases hfull : F.length = n
      · have hq : ((F.length : Int) == (n : Int)) = true := by simp [hfull]
        have HFU := hide hfull
        clear hfull
        gi_wp2_with (refine ⟨trivial, ?_⟩; gi_at_call 50; refine (CallsIn.inRound l (callsIn_wide.2 (contains_any HI.out x))).mono ?_; rintro e w' ⟨rfl, rfl⟩; rw [HD.out])
        refine wpIn_region_quiet_round rfl (by kernel_rfl) (by kernel_rfl) (by kernel_rfl) ?_
        repeat (gi_big_quiet_step (fail))
        refine wpQuietIn_nil ?_
        intro w6 hw6
        have g6 : W.grownBy w6 none := by
          obtain ⟨q6, rfl⟩ := hw6
          exact ⟨rfl, rfl, rfl, Nat.le_refl _, fun _ _ _ => rfl⟩
        clear hw6
        gi_wp2
        exact ⟨(KeepsOthers.of_grownBy g6 (fun _ _ e => by cases e)).from _, ⟨HJ2.out.kept g6 (fun r e => by cases e), hB1.grown g6 (hB1.size) (fun r e => by cases e)⟩, by rw [HADD.out, HAF.out]; exact HFU.out, rfl⟩
      · have hq : ((F.length : Int) == (n : Int)) = false := by simp; omega
        clear hfull
        gi_wp2_with (refine ⟨trivial, ?_⟩; gi_at_call 50; refine (CallsIn.inRound l (callsIn_wide.2 (contains_any HI.out x))).mono ?_; rintro e w' ⟨rfl, rfl⟩; rw [HD.out])
        refine wpIn_region_quiet_round rfl (by kernel_rfl) (by kernel_rfl) (by kernel_rfl) ?_
        repeat (gi_big_quiet_step (fail))
        refine wpQuietIn_nil ?_
        intro w6 hw6
        have g6 : W.grownBy w6 none := by
          obtain ⟨q6, rfl⟩ := hw6
          exact ⟨rfl, rfl, rfl, Nat.le_refl _, fun _ _ _ => rfl⟩
        clear hw6
        gi_wp2
        exact ⟨(KeepsOthers.of_grownBy g6 (fun _ _ e => by cases e)).from _, KpX.grown _ g6 (fun r e => by cases e), HJ2.out.kept g6 (fun r e => by cases e), hB1.grown g6 (hB1.size) (fun r e => by cases e)⟩
    · have hd : decide (x ∈ F) = false := by simp [hx]
      have HD := hide hd
      have haf : addF F x = F ++ [x] := by rw [addF, if_neg hx]
      have HAF := hide haf
      clear hd haf hx
      have hbs := hB1.size
      have hgo : g < W.heap.size := (OWN.out.lt g hv).2
      have bV2 := bV1.alloc (.cells #[.int .i64 x] 3)
      have bR3 := bR1.alloc (.cells #[.int .i64 x] 3)
      gi_wp2_with (first | (refine ⟨trivial, ?_⟩; gi_at_call 50; refine (CallsIn.inRound l (callsIn_wide.2 (contains_any HI.out x))).mono ?_; rintro e w' ⟨rfl, rfl⟩; rw [HD.out]) | (gi_at_builtin; go_loud (refine wpListIn_append_own_at _ (by rfl) _ _ 28 (by rfl) (w.heap.size + 1) 3 i0 (.int .i64 0) 1 8 Try.underlying28 hi hz0 hz1 hz2 rfl (by decide) (.slice a1 F.length c1) F.length (F.flatMap encI) (by rfl) (OWN.out.alloc _) ⟨W.heap.size, 0, none⟩ 1 1 [.int .i64 x] (by rfl) (by rfl) (cells_new W [.int .i64 x] 3) (by simp [Value.oneCell']) (by unfold maxLen; omega) (by omega) (by simp; omega) ?_); intro v2 w7 hown2 hgrow2 _ hat; obtain ⟨a2, c2, rfl⟩ := own_shape hown2; have bV3 := bV2.kept hgrow2 (row_ne hv (by omega)); have bR4 := bR3.kept hgrow2 (row_ne hv (by omega)); have cV3 := bV3.cell; have fV3 := bV3.frozen))
      have hWl : W0.heap.size < W.heap.size := Nat.lt_of_le_of_lt hl (Array.getElem?_eq_some_iff.1 hr).1
      have hb7 : Below w.heap.size w w7 := (hB1.alloc hbs _).grown hgrow2 (by simp; omega) (fun r e => by rw [hv] at e; cases e; omega)
      have hb8 := hb7.setCell (p := ⟨w.heap.size + 1 + 1, 0, none⟩) (by show _ ≤ w.heap.size + 1 + 1; omega) (.slice a2 (F.length + 1) c2)
      have bV8 := bV3.set (.slice a2 (F.length + 1) c2)
      have bR8 := box_other bR4 (B' := w.heap.size + 1 + 1) (by omega) (.slice a2 (F.length + 1) c2)
      have own8 := own_set8 hown2 bV3 (.slice a2 (F.length + 1) c2)
      have hg2 : ∃ g2, (Value.slice a2 (F.length + 1) c2).ownBlock = some g2 ∧ (w.heap.size < g2 ∧ g2 ≠ w.heap.size + 1 + 1 ∧ g2 ≠ w.heap.size + 1 + 1 + 1 ∧ g2 ≠ w.heap.size + 1 + 1 + 1 + 1) := by
        rcases hat with e | e
        · exact ⟨g, by rw [e, hv], hg⟩
        · exact ⟨_, e, by simp; omega⟩
      obtain ⟨g2, hv2, hgg2⟩ := hg2
      have k8 : KpX (fun k => w.heap.size < k ∧ k ≠ w.heap.size + 1 + 1 + 1 ∧ k ≠ w.heap.size + 1 + 1 + 1 + 1) W (w7.setCell ⟨w.heap.size + 1 + 1, 0, none⟩ (.slice a2 (F.length + 1) c2)) :=
        ((KpX.alloc _ W _).trans (KpX.grown _ hgrow2 (fun r e => by rw [hv] at e; cases e; exact ⟨hg.1, hg.2.2⟩))).trans (KpX.setCell _ _ _ _ (by omega))
      have kk8 : KeepsFrom W0.heap.size W (w7.setCell ⟨w.heap.size + 1 + 1, 0, none⟩ (.slice a2 (F.length + 1) c2)) :=
        ((KeepsOthers.alloc W _).trans ((KeepsOthers.of_grownBy hgrow2 (own_cells (OWN.out.alloc _))).trans (KeepsOthers.setCell _ _ _))).from _
      obtain ⟨w8, hw8⟩ : ∃ w8, w7.setCell ⟨w.heap.size + 1 + 1, 0, none⟩ (.slice a2 (F.length + 1) c2) = w8 := ⟨_, rfl⟩
      rw [hw8] at hb8 bV8 bR8 own8 k8 kk8 ⊢
      have hJ8 : RowJ w.heap.size B (pre ++ [x]) w8 := by
        refine ⟨.slice a2 (F.length + 1) c2, g2, hv2, hgg2, bV8, ?_, bR8, ?_⟩
        · rw [HADD.out, HAF.out, List.length_append, List.flatMap_append]; exact own8
        · rw [HADD.out, HAF.out]; simp; omega
      have HJ8 := hide hJ8
      have cV8 := bV8.cell
      have cR8 := bR8.cell
      have cN8 : w8.cell? ⟨B, 1, none⟩ = some (.int .i64 n) := (hb8.cell (p := ⟨B, 1, none⟩) hBl).trans cB1
      clear hJ8 hw8 bV3 bR4 cV3 fV3 hown2 hgrow2 hat own8 bV8 bR8 cV cR fV cN bV1 bR1 bV2 bR3
      by_cases hfull : F.length + 1 = n
      · have hq : (((F.length : Int) + 1) == (n : Int)) = true := by simp; omega
        have HFU := hide hfull
        clear hfull
        refine wpIn_region_quiet_round rfl (by kernel_rfl) (by kernel_rfl) (by kernel_rfl) ?_
        repeat (gi_big_quiet_step (fail))
        refine wpQuietIn_nil ?_
        intro w6 hw6
        have g6 : w8.grownBy w6 none := by
          obtain ⟨q6, rfl⟩ := hw6
          exact ⟨rfl, rfl, rfl, Nat.le_refl _, fun _ _ _ => rfl⟩
        clear hw6
        gi_wp2
        exact ⟨kk8.trans ((KeepsOthers.of_grownBy g6 (fun _ _ e => by cases e)).from _), ⟨HJ8.out.kept g6 (fun r e => by cases e), hb8.grown g6 (hb8.size) (fun r e => by cases e)⟩, by rw [HADD.out, HAF.out, List.length_append]; exact HFU.out, rfl⟩
      · have hq : (((F.length : Int) + 1) == (n : Int)) = false := by simp; omega
        clear hfull
        refine wpIn_region_quiet_round rfl (by kernel_rfl) (by kernel_rfl) (by kernel_rfl) ?_
        repeat (gi_big_quiet_step (fail))
        refine wpQuietIn_nil ?_
        intro w6 hw6
        have g6 : w8.grownBy w6 none := by
          obtain ⟨q6, rfl⟩ := hw6
          exact ⟨rfl, rfl, rfl, Nat.le_refl _, fun _ _ _ => rfl⟩
        clear hw6
        gi_wp2
        exact ⟨kk8.trans ((KeepsOthers.of_grownBy g6 (fun _ _ e => by cases e)).from _), k8.trans (KpX.grown _ g6 (fun r e => by cases e)), HJ8.out.kept g6 (fun r e => by cases e), hb8.grown g6 (hb8.size) (fun r e => by cases e)⟩
  case done =>
    rintro D ys W hD rfl ⟨⟨v, g, hv, hg, bV1, own1, bR1, hle⟩, hB1⟩ hK
    have cV := bV1.cell
    have OWN := hide own1
    obtain ⟨a1, c1, rfl⟩ := own_shape own1
    clear own1
    gi_wp2
    refine ⟨by simp, .inl ⟨_, _, rfl, run_takeDeferred hK, ?_⟩⟩
    have g1 : W.grownBy (W.putObj D (.deferred none)) (some D) := putObj_grown hK
    exact ⟨_, results_tmp rfl _ _ _, .slice a1 (firsts (idsK key P)).length c1, rfl, own_base (show w.heap.size ≤ w.heap.size + 1 by omega) (own_kept g1 (fun r e => by cases e; exact ⟨_, hK, rfl⟩) OWN.out), hB1.trans (belowK_b (w := w) (Nat.le_refl _) W D _ _ (by omega) hK rfl rfl)⟩
  case stop =>
    rintro D c pre W hD ⟨k, hk, rfl⟩ ⟨⟨⟨v, g, hv, hg, bV1, own1, bR1, hle⟩, hB1⟩, hfull, rfl⟩ hK
    have cV := bV1.cell
    have hfin : firsts ((idsK key P).take k) = rowOf key P := by
      have hall := pigeon (firsts ((idsK key P).take k)) E (firsts_nodup _) (fun x hx => hsub x (List.mem_of_mem_take ((firsts_mem _ _).1 hx))) (by omega)
      have := firsts_full ((idsK key P).take k) ((idsK key P).drop k) (fun x hx => hall x (hsub x (List.mem_of_mem_drop hx)))
      rw [List.take_append_drop] at this
      exact this.symm
    rw [hfin] at own1
    obtain ⟨a1, c1, rfl⟩ := own_shape own1
    have OWN := hide own1
    clear own1 hfin
    gi_wp2
    refine ⟨by simp, .inl ⟨_, _, rfl, run_takeDeferred hK, ?_⟩⟩
    have g1 : W.grownBy (W.putObj D (.deferred none)) (some D) := putObj_grown hK
    exact ⟨_, results_tmp rfl _ _ _, .slice a1 (rowOf key P).length c1, rfl, own_base (show w.heap.size ≤ w.heap.size + 1 by omega) (own_kept g1 (fun r e => by cases e; exact ⟨_, hK, rfl⟩) OWN.out), hB1.trans (belowK_b (w := w) (Nat.le_refl _) W D _ _ (by omega) hK rfl rfl)⟩
end Go.Proofs.Ytoncfogihiapiaa
