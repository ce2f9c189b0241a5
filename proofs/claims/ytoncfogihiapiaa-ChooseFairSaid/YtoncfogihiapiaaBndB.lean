
/- bound.counting, bound.loadsOf: maps keyed by numbers, read as functions. -/
import Derived.Maps.OwnSet
import Derived.Test.YtoncfogihiapiaaRingA
import Derived.OwnWalk
namespace Go.Proofs.Ytoncfogihiapiaa
open Go.ChangeShapes Go.WideShapes Go.ChangeAt Go.RowKit Go.Maps
theorem lawI : Keyed Try.prog 3 := int_keyed Try.underlying3
theorem zeroB (w : World) : (zeroValue 4).run Try.prog w = .ok (.bool false) w := by kernel_rfl
theorem zeroI (w : World) : (zeroValue 3).run Try.prog w = .ok (.int .i64 0) w := by kernel_rfl
theorem keyI {z : Int} (hz : I64 z) : keyOf Try.prog 3 (.int .i64 z) = some (.int .i64 z) := keyOf_int_mk Try.underlying3 (WalkArith.wf_i64 hz)
theorem run_makeMap_hint {P : Program} {t k e : TypeId} (hu : P.underlying t = some (.map k e)) (q : IntKind) (n : Int) (w : World) : (Instr.makeMap t (some (.int q n))).run P w = .ok (.map (some w.heap.size)) (w.alloc (.map #[] 0)) := by
  simp [Instr.makeMap, run_underlying hu, asInt, asIntOf, Result.andThen]
/-- block b is a set of numbers: those at which f holds -/
def Among (w : World) (b n : Nat) (f : Int → Bool) : Prop :=
  ∃ D : DataW Nat, w.ownsMap Try.prog 3 (plainElem Try.prog 4) b n D ∧ ∀ x, D.atKey (.int .i64 x) (.lit (.bool false)) = .lit (.bool (f x))
/-- block b is a map from numbers to numbers -/
def LoadsAt (w : World) (b n : Nat) (f : Int → Option Int) : Prop :=
  ∃ D : DataW Nat, w.ownsMap Try.prog 3 (plainElem Try.prog 3) b n D ∧ (∀ x, D.atKey (.int .i64 x) (.lit (.int .i64 0)) = .lit (.int .i64 ((f x).getD 0))) ∧ ∀ x, Maps.has D (.int .i64 x) = (f x).isSome
theorem among_made (w : World) : Among (w.alloc (.map #[] 0)) w.heap.size 0 (fun _ => false) := ⟨_, World.ownsMap_made _ _ _ _, fun _ => rfl⟩
theorem loads_made (w : World) : LoadsAt (w.alloc (.map #[] 0)) w.heap.size 0 (fun _ => none) := ⟨_, World.ownsMap_made _ _ _ _, fun _ => rfl, fun _ => rfl⟩
theorem Among.kept {w w' : World} {b n : Nat} {f : Int → Bool} {row : Option Nat} (h : Among w b n f) (hg : w.grownBy w' row) (hne : some b ≠ row) : Among w' b n f := by
  obtain ⟨D, h1, h2⟩ := h; exact ⟨D, h1.kept hg hne, h2⟩
theorem LoadsAt.kept {w w' : World} {b n : Nat} {f : Int → Option Int} {row : Option Nat} (h : LoadsAt w b n f) (hg : w.grownBy w' row) (hne : some b ≠ row) : LoadsAt w' b n f := by
  obtain ⟨D, h1, h2, h3⟩ := h; exact ⟨D, h1.kept hg hne, h2, h3⟩
theorem grown_of_ext {w w' : World} (e : Ext w w') : w.grownBy w' none := ⟨e.os, e.tape, e.output, e.size, fun i hi _ => e.block i hi⟩
theorem LoadsAt.ext {w w' : World} {b n : Nat} {f : Int → Option Int} (h : LoadsAt w b n f) (e : Ext w w') : LoadsAt w' b n f := h.kept (grown_of_ext e) (by simp)
theorem Among.alloc {w : World} {b n : Nat} {f : Int → Bool} (h : Among w b n f) (o : Obj) : Among (w.alloc o) b n f := by
  obtain ⟨D, h1, h2⟩ := h; exact ⟨D, h1.alloc o, h2⟩
theorem LoadsAt.alloc {w : World} {b n : Nat} {f : Int → Option Int} (h : LoadsAt w b n f) (o : Obj) : LoadsAt (w.alloc o) b n f := by
  obtain ⟨D, h1, h2⟩ := h; exact ⟨D, h1.alloc o, h2⟩
theorem put_other {D : DataW Nat} (x z : Int) (d y : DataW Nat) (h : x ≠ z) : (D.put (.int .i64 z) d).atKey (.int .i64 x) y = D.atKey (.int .i64 x) y := atKey_put_other (by simpa using h) d y
set_option maxRecDepth 100000 in
theorem wpList_among_look (w : World) {ops : Array Oper} {rest : List Oper} {o : Oper} {a : Act} {Q : Exit → Act → World → Prop} (hg : o.guard = none) (m x : Operand) (hop : o.op = Op.lookup 96 m x false)
    (b n : Nat) (f : Int → Bool) (hm : a.eval m = .map (some b)) (h : Among w b n f) (z : Int) (hz : I64 z) (r : Bool) (hr : f z = r) (hx : a.eval x = .int .i64 z)
    (hK : wpList Try.prog ops Q rest (a.put o.dst (.bool r)) w) : wpList Try.prog ops Q (o :: rest) a w := by
  subst hr
  obtain ⟨D, hown, hat⟩ := h
  refine wpList_plain hg fun K' hK' => ?_
  obtain ⟨v, ps, hrun, hv⟩ := hown.lookup lawI Try.underlying96 (zeroB w) (plainElem_bool (H := Nat) Try.underlying4 false) (keyI hz)
  rw [hat z] at hv
  have hvb : v = .bool (f z) := by
    have hu := Try.underlying4
    unfold plainElem at hv
    rw [hu] at hv
    cases v <;> simp at hv
    rw [hv.1]
  subst hvb
  unfold Oper.wp
  simp [execOp, hop, hm, hx, hrun, Result.andThen]
  exact hK' _ _ hK
theorem wpList_among_put (w : World) {ops : Array Oper} {rest : List Oper} {o : Oper} {a : Act} {Q : Exit → Act → World → Prop} (hg : o.guard = none) (m x v : Operand) (hop : o.op = Op.mapUpdate 96 m x v)
    (b n : Nat) (f : Int → Bool) (hm : a.eval m = .map (some b)) (h : Among w b n f) (hn : n < maxLen) (z : Int) (hz : I64 z) (hx : a.eval x = .int .i64 z) (hv : a.eval v = .bool true)
    (hK : ∀ w', Among w' b (n + 1) (fun y => f y || y == z) → w.grownBy w' (some b) → wpList Try.prog ops Q rest (a.put o.dst undef) w') : wpList Try.prog ops Q (o :: rest) a w := by
  obtain ⟨D, hown, hat⟩ := h
  refine wpList_mapUpdate_own w hg m x v _ hop 3 4 lawI Try.underlying96 _ b n D hm hown hn _ _ _ hx hv (keyI hz) _ [] (plainElem_bool Try.underlying4 true) ?_
  intro w' h1 h2
  refine hK w' ⟨_, h1, fun y => ?_⟩ h2
  by_cases hy : y = z
  · subst hy
    rw [atKey_put_same hown.isMap (show WideAt.IsKeyLit (Lit.int .i64 y) from trivial)]; simp
  · rw [put_other y z _ _ hy, hat y]; simp [hy]
theorem wpList_loads_look (w : World) {ops : Array Oper} {rest : List Oper} {o : Oper} {a : Act} {Q : Exit → Act → World → Prop} (hg : o.guard = none) (m x : Operand) (hop : o.op = Op.lookup 76 m x false)
    (b n : Nat) (f : Int → Option Int) (hm : a.eval m = .map (some b)) (h : LoadsAt w b n f) (z : Int) (hz : I64 z) (r : Int) (hr : (f z).getD 0 = r) (hx : a.eval x = .int .i64 z)
    (hK : wpList Try.prog ops Q rest (a.put o.dst (.int .i64 r)) w) : wpList Try.prog ops Q (o :: rest) a w := by
  subst hr
  obtain ⟨D, hown, hat, _⟩ := h
  refine wpList_lookup_own_int w hg m x _ hop 3 3 .i64 lawI Try.underlying76 Try.underlying3 (zeroI w) b n D hm hown _ _ hx (keyI hz) ?_
  intro c hc _
  rw [hat z] at hc
  have : (f z).getD 0 = c := by simpa using hc
  rw [← this]; exact hK
theorem wpList_loads_look_ok (w : World) {ops : Array Oper} {rest : List Oper} {o : Oper} {a : Act} {Q : Exit → Act → World → Prop} (hg : o.guard = none) (m x : Operand) (hop : o.op = Op.lookup 76 m x true)
    (b n : Nat) (f : Int → Option Int) (hm : a.eval m = .map (some b)) (h : LoadsAt w b n f) (z : Int) (hz : I64 z) (r : Int) (hr : (f z).getD 0 = r) (t : Bool) (ht : (f z).isSome = t) (hx : a.eval x = .int .i64 z)
    (hK : wpList Try.prog ops Q rest (a.put o.dst (.tuple #[.int .i64 r, .bool t])) w) : wpList Try.prog ops Q (o :: rest) a w := by
  subst hr ht
  obtain ⟨D, hown, hat, hh⟩ := h
  refine wpList_lookup_own_ok_int w hg m x _ hop 3 3 .i64 lawI Try.underlying76 Try.underlying3 (zeroI w) b n D hm hown _ _ hx (keyI hz) ?_
  intro c hc _
  rw [hat z] at hc
  have : (f z).getD 0 = c := by simpa using hc
  rw [← this, hh z]; exact hK
theorem wpList_loads_put (w : World) {ops : Array Oper} {rest : List Oper} {o : Oper} {a : Act} {Q : Exit → Act → World → Prop} (hg : o.guard = none) (m x v : Operand) (hop : o.op = Op.mapUpdate 76 m x v)
    (b n : Nat) (f : Int → Option Int) (hm : a.eval m = .map (some b)) (h : LoadsAt w b n f) (hn : n < maxLen) (z : Int) (hz : I64 z) (hx : a.eval x = .int .i64 z) (c : Int) (hc : I64 c) (hv : a.eval v = .int .i64 c)
    (hK : ∀ w', LoadsAt w' b (n + 1) (fun y => if y = z then some c else f y) → w.grownBy w' (some b) → wpList Try.prog ops Q rest (a.put o.dst undef) w') : wpList Try.prog ops Q (o :: rest) a w := by
  obtain ⟨D, hown, hat, hh⟩ := h
  refine wpList_mapUpdate_own w hg m x v _ hop 3 3 lawI Try.underlying76 _ b n D hm hown hn _ _ _ hx hv (keyI hz) _ [] (plainElem_int Try.underlying3 (WalkArith.wf_i64 hc)) ?_
  intro w' h1 h2
  refine hK w' ⟨_, h1, fun y => ?_, fun y => ?_⟩ h2
  · by_cases hy : y = z
    · subst hy
      rw [atKey_put_same hown.isMap (show WideAt.IsKeyLit (Lit.int .i64 y) from trivial)]; simp
    · rw [put_other y z _ _ hy, hat y]; simp [hy]
  · by_cases hy : y = z
    · subst hy
      rw [has_put_same hown.isMap (show WideAt.IsKeyLit (Lit.int .i64 y) from trivial)]; simp
    · rw [has_put_other (by simpa using hy), hh y]; simp [hy]
/-- those of a row that are among some -/
def cnt (row some : List Int) : List Int := row.filter (fun x => some.contains x)
/-- the first load of an ID -/
def loadF (L : List (Int × Int)) (x : Int) : Option Int := (L.find? (fun y => y.1 == x)).map Prod.snd
def loadI (L : List (Int × Int)) (x : Int) : Int := (loadF L x).getD 0
theorem cnt_succ (l S : List Int) (k : Nat) (h : k < l.length) : cnt (l.take (k+1)) S = if S.contains l[k] then cnt (l.take k) S ++ [l[k]] else cnt (l.take k) S := by
  unfold cnt
  rw [take_snoc l k h, List.filter_append]
  by_cases e : S.contains l[k] = true
  · rw [if_pos e]; simp only [List.filter_cons, e, if_true, List.filter_nil]
  · rw [if_neg e]; simp only [List.filter_cons, e, List.filter_nil]; simp
theorem loadF_succ (L : List (Int × Int)) (k : Nat) (h : k < L.length) (y : Int) : loadF (L.take (k+1)) y = match loadF (L.take k) y with | some c => some c | none => if y = L[k].1 then some L[k].2 else none := by
  unfold loadF
  rw [take_snoc L k h, List.find?_append]
  cases hf : List.find? (fun z => z.1 == y) (L.take k) with
  | some c => rfl
  | none =>
    by_cases hy : y = L[k].1
    · simp [hy]
    · have : (L[k].1 == y) = false := by simp; exact fun e => hy e.symm
      simp [List.find?_cons, this, hy]
theorem i64_bd {x : Int} (h : I64 x) : -9223372036854775808 ≤ x ∧ x ≤ 9223372036854775807 := h
set_option maxRecDepth 100000 in
set_option maxHeartbeats 2000000 in
theorem counting_any (row S : List Int) (u v : Value) (w : World) (hr : Ints w u row) (hs : Ints w v S) (hrl : row.length ≤ 1000) (hsl : S.length ≤ 1000) (hri : ∀ x ∈ row, I64 x) (hsi : ∀ x ∈ S, I64 x) :
    Calls Try.prog 42 #[u, v] w fun e w' => ∃ v', e = .returned v' ∧ w'.ownsRow (w.heap.size + 1) 3 1 v' (cnt row S).length ((cnt row S).flatMap encI) ∧ Ext w w' := by
  obtain ⟨_, a, cap, rfl⟩ := hr.shape
  obtain ⟨_, a2, cap2, rfl⟩ := hs.shape
  obtain ⟨i0, hi, hz0, hz1, hz2⟩ := info_parts' Try.infoI
  have hl1 : (row.length : Int) ≤ 1000 := by omega
  have hl2 : (S.length : Int) ≤ 1000 := by omega
  have HR := hide hr
  have HS := hide hs
  have HRI := hide hri
  have HSI := hide hsi
  clear hr hs hri hsi
  have hmm := run_makeMap_hint Try.underlying96 .i64 S.length
  go_enter Try.func42, Try.ntmps42
  go_wp2
  have b0 : Ext w (w.alloc (.map #[] 0)) := (Below.refl _ _).alloc (Nat.le_refl _) _
  go_loopw [16] (fun i wr => ∃ k : Nat, k ≤ S.length ∧ i = .int .i64 k ∧ Among wr w.heap.size k (fun x => (S.take k).contains x) ∧ Ext w wr)
    (fun i _ => S.length - (intOf i).toNat)
  case atStart => exact ⟨0, Nat.zero_le _, rfl, by simpa using among_made w, b0⟩
  case round =>
    obtain ⟨k, hk, rfl, ham, hext⟩ := hrel
    by_cases hlt : k < S.length
    · obtain ⟨b, off, rfl, hbb, hc⟩ := ints_at (HS.out.ext hext) k hlt
      have hx : I64 S[k] := HSI.out _ (List.getElem_mem hlt)
      have hts : ∀ y, (S.take (k+1)).contains y = ((S.take k).contains y || y == S[k]) := fun y => by rw [Bool.eq_iff_iff]; simp only [List.contains_iff_mem, take_snoc S k hlt, List.mem_append, List.mem_singleton, Bool.or_eq_true, beq_iff_eq]
      obtain ⟨x, hxx⟩ : ∃ x, S[k] = x := ⟨_, rfl⟩
      rw [hxx] at hc hx hts
      have HX := hide hx
      have HTS := hide hts
      clear hx hts hxx
      go_wp2_with (at_mapUpdate; refine wpList_among_put _ rfl _ _ _ rfl w.heap.size k _ rfl ham (by unfold maxLen; omega) x HX.out rfl rfl ?_; intro w1 ham1 hgrow1)
      go_roundw
      case rel =>
        refine ⟨k + 1, hlt, by go_num, ?_, hext.grown hgrow1 hext.size (fun j hj => by cases hj; exact Nat.le_refl _)⟩
        have e : (fun y => (S.take (k+1)).contains y) = fun y => (S.take k).contains y || y == x := funext HTS.out
        rw [e]; exact ham1
      case measure => simp [intOf]; omega
    · obtain rfl : k = S.length := by omega
      rw [List.take_length] at ham
      have HAM := hide ham
      clear ham
      go_wp2
      go_loopw [25, 8] (fun i v wr => ∃ k : Nat, k ≤ row.length ∧ i = .int .i64 k ∧ Among wr w.heap.size S.length (fun x => S.contains x) ∧ wr.ownsRow (w.heap.size + 1) 3 1 v (cnt (row.take k) S).length ((cnt (row.take k) S).flatMap encI) ∧ Ext w wr ∧ w.heap.size + 1 ≤ wr.heap.size)
        (fun i _ _ => row.length - (intOf i).toNat)
      case atStart => exact ⟨0, Nat.zero_le _, rfl, HAM.out, by simpa [cnt] using World.ownsRow_nil _ _ _ _, hext, by obtain ⟨D, h1, _⟩ := HAM.out; exact h1.lt⟩
      case round =>
        obtain ⟨k, hk, rfl, ham, hown, hext2, hsz⟩ := hrel
        by_cases hlt : k < row.length
        · obtain ⟨b, off, rfl, hbb, hc⟩ := ints_at (HR.out.ext hext2) k hlt
          have hx : I64 row[k] := HRI.out _ (List.getElem_mem hlt)
          have hcs := cnt_succ row S k hlt
          have hcl : (cnt (row.take k) S).length ≤ 1000 := Nat.le_trans (List.length_filter_le _ _) (by rw [List.length_take]; omega)
          obtain ⟨x, hxx⟩ : ∃ x, row[k] = x := ⟨_, rfl⟩
          rw [hxx] at hc hx hcs
          obtain ⟨F, hF⟩ : ∃ F, cnt (row.take k) S = F := ⟨_, rfl⟩
          rw [hF] at hown hcs hcl
          have HX := hide hx
          clear hx hxx hF
          by_cases hin : S.contains x = true
          · rw [if_pos hin] at hcs
            have HCS := hide hcs
            clear hcs
            go_wp2_with (first
              | (at_lookup; refine wpList_among_look _ rfl _ _ rfl w.heap.size S.length _ rfl ham x HX.out true hin rfl ?_)
              | (at_builtin; refine wpList_append_own _ (by rfl) _ _ 28 (by rfl) (w.heap.size + 1) 3 i0 (.int .i64 0) 1 8 Try.underlying28 hi hz0 hz1 hz2 rfl (by decide) _ F.length (F.flatMap encI) (by rfl) (hown.alloc _) ⟨wr.heap.size, 0, none⟩ 1 1 [.int .i64 x] (by rfl) (by rfl) (cells_new wr [.int .i64 x] 3) (by simp [Value.oneCell']) (by unfold maxLen; omega) (by omega) (by simp; omega) ?_; intro v2 w2 hown2 hgrow2 _))
            go_roundw
            case rel =>
              refine ⟨k + 1, hlt, by go_num, (ham.alloc _).kept hgrow2 (fun e => by have := (hown.lt _ e.symm).1; omega), by rw [HCS.out, List.length_append, List.flatMap_append]; exact hown2, ?_, ?_⟩
              · exact Below.grown (Below.alloc hext2 hext2.size _) hgrow2 (by simp; omega) (fun r hr => by have := (hown.lt r hr).1; omega)
              · have := hgrow2.size; simp at this; omega
            case measure => simp [intOf]; omega
          · have hin' : S.contains x = false := by simpa using hin
            rw [if_neg hin] at hcs
            have HCS := hide hcs
            clear hcs hin
            go_wp2_with (at_lookup; refine wpList_among_look _ rfl _ _ rfl w.heap.size S.length _ rfl ham x HX.out false hin' rfl ?_)
            go_roundw
            case rel => exact ⟨k + 1, hlt, by go_num, ham, by rw [HCS.out]; exact hown, hext2, hsz⟩
            case measure => simp [intOf]; omega
        · obtain rfl : k = row.length := by omega
          rw [List.take_length] at hown
          go_wp2
          go_ret
          exact ⟨_, rfl, hown, hext2⟩
end Go.Proofs.Ytoncfogihiapiaa
