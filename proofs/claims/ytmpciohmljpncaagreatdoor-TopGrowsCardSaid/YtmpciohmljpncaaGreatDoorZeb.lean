/- Merged texts (EvS10, EvS11, EvS12, EvS13, EvS14, EvS15, EvS16, EvS17, EvS18a, EvS18b, EvS18c, EvS18d, EvS18e, EvS18f, EvS18g, EvS18h, EvS18i, EvS18j, EvS18k, EvS19, EvS18l, EvS20, EvS21). -/
import Derived.Test.YtmpciohmljpncaaGreatDoorZea
import Derived.Orders
import Derived.Scope
import Derived.Defers
set_option linter.unusedSectionVars false
set_option linter.unusedSimpArgs false
set_option linter.unusedVariables false
set_option linter.unnecessarySimpa false
set_option linter.deprecated false
namespace Go.Ev
theorem frozen_run {P : Program} {w : World} {b o : Nat} {c : Array Value} {t : TypeId} (h : w.heap[b]? = some (.cells c t (0, 0))) : (frozen ⟨b, o, none⟩).run P w = .ok false w := by
 simp [frozen, Sem.run, World.frozen?, h]
theorem shape_run {P : Program} {w : World} {b : Nat} {c : Array Value} {t : TypeId} {f : Nat × Nat} (h : w.heap[b]? = some (.cells c t f)) : (shape b).run P w = .ok (some (t, c.size)) w := by
 simp [shape, Sem.run, World.shape?, h]
theorem sameAddr_same {P : Program} {w : World} (b o o' : Nat) : (sameAddr ⟨b, o, none⟩ ⟨b, o', none⟩).run P w = .ok (decide (o = o')) w := by
 unfold sameAddr
 simp only [BEq.rfl, if_true]
 show Result.ok _ w = _
 congr 1
 by_cases h : o = o'
 ·subst h; simp
 ·have : (⟨b, o, none⟩ : Addr) ≠ ⟨b, o', none⟩ := fun e => h (by injection e)
  simp [h, this]
theorem sameAddr_other {P : Program} {w : World} {b o b' o' : Nat} {c c' : Array Value} {t t' : TypeId} (hne : b ≠ b') (h : w.heap[b]? = some (.cells c t (0, 0))) (h' : w.heap[b']? = some (.cells c' t' (0, 0))) :
  (sameAddr ⟨b, o, none⟩ ⟨b', o', none⟩).run P w = .ok false w := by
 unfold sameAddr
 have e : (b == b') = false := by simpa using hne
 simp only [e, Bool.false_eq_true, if_false]
 simp only [Sem.run_bind, frozen_run h, frozen_run h', Result.andThen_ok, noView, viewAt, shape_run h, shape_run h', mayBeOne, stringish, Bool.false_eq_true, if_false, Bool.and_false, Bool.false_and, Bool.or_false, Sem.run_pure, Option.isSome_some, if_true, Option.isSome_none]
theorem eqlIn_of {P : Program} {t : TypeId} {x y : Value} {r : Bool} {w : World} (h : ∀ d, (Op.equalIn (d + 1) t x y).run P w = .ok r w) : (Op.equal t x y).run P w = .ok r w := h 9999
section
variable {E : Env} (hE : EnvOk E) {ι : Io} {fr : Fr} {ρ : Operand → Value} (H : ERel ι fr ρ) {o : Oper} {v : AV} {s : St} {w : World} (HR : HRel ι s w)
include hE H HR
theorem r_bin {op : BinOp} {t t' : TypeId} {x y : Operand} (ho : o.op = .binOp op t x y t') (h : rBin op t x y E fr s = .ok v) : ROk E ι o ρ w v := by
 unfold rBin at h
 split at h
 ·rename_i b hb
  obtain ⟨p, _, hp, h⟩ := ael_ok hE H HR h
  obtain ⟨q, _, hq, h⟩ := ael_ok hE H HR h
  split at h
  ·rename_i r hr
   injection h with h; subst h
   unfold aeqp at hr
   split at hr
   ·rename_i elem hd
    split at hr
    ·rename_i n hn
     rw [R.cond_ok, blt_eq] at hr
     obtain ⟨g, hr⟩ := hr
     have g := of_decide_eq_true g
     have hn0 : n ≠ 0 := by omega
     split at hr
     ·rename_i k off k' off' _ _
      obtain ⟨l, hl, e1⟩ := hp
      obtain ⟨l', hl', e2⟩ := hq
      have key : (sameAddr ⟨l.b, l.s + off, none⟩ ⟨l'.b, l'.s + off', none⟩).run E.P w = .ok r w := by
       rw [beq_eq] at hr
       by_cases hk : k = k'
       ·subst hk
        rw [hl] at hl'; injection hl' with hl'; subst hl'
        simp only [decide_true, cond_true, beq_eq] at hr
        injection hr with hr; subst hr
        rw [sameAddr_same]
        congr 1
        simp
       ·simp only [hk, decide_false, cond_false] at hr
        split at hr
        ·rename_i cs hcs
         split at hr
         ·rename_i cs' hcs'
          injection hr with hr; subst hr
          have live : ∀ {k : Nat} {cs : List AV} {l : Loc}, ι k = some l → acells s k = .ok cs → ∃ c t, w.heap[l.b]? = some (.cells c t (0, 0)) ∧ ∃ b, s.h.get k = some b := by
           intro k cs l hl hcs
           unfold acells at hcs
           split at hcs
           ·rename_i cs2 hk2
            obtain ⟨l2, ob, q1, q2, c, t, q3, q4, q5⟩ := HR.blk k _ hk2
            subst q3
            rw [hl] at q1; injection q1 with q1; subst q1
            exact ⟨c, t, q2, _, hk2⟩
           ·cases hcs
           ·cases hcs
          obtain ⟨c, t1, m1, b1, m2⟩ := live hl hcs
          obtain ⟨c', t2, m1', b2, m2'⟩ := live hl' hcs'
          exact sameAddr_other (fun e => hk (HR.inj k k' b1 b2 l l' m2 m2' hl hl' e)) m1 m1'
         ·cases hr
        ·cases hr
      have hu := und_run hE hd
      have heq : (Op.equal t (ρ x) (ρ y)).run E.P w = .ok r w := by
       rw [e1, e2]
       refine eqlIn_of fun d => ?_
       simp only [Op.equalIn, Sem.run_bind, hu, Result.andThen_ok, tsz_run hE hn, ne_eq, hn0, not_false_eq_true, if_true, key]
      refine ⟨_, ⟨rfl, rfl⟩, ?_⟩
      rcases isEq_cases hE H hb with ⟨rfl, rfl⟩ | ⟨rfl, rfl⟩
      ·have hbin : binOp .eql t (ρ x) (ρ y) = (do pure (.bool (← Op.equal t (ρ x) (ρ y)))) := by rw [e1, e2]; rfl
       have hgd : eqGuard .eql t x y (ρ x) (ρ y) = pure () := by rw [e1, e2]; unfold eqGuard; rfl
       simp only [execOp, ho, hgd, hbin, Sem.run_bind, Sem.run_pure, Result.andThen_ok, heq, cond_true]
      ·have hbin : binOp .neq t (ρ x) (ρ y) = (do pure (.bool (!(← Op.equal t (ρ x) (ρ y))))) := by rw [e1, e2]; rfl
       have hgd : eqGuard .neq t x y (ρ x) (ρ y) = pure () := by rw [e1, e2]; unfold eqGuard; rfl
       simp only [execOp, ho, hgd, hbin, Sem.run_bind, Sem.run_pure, Result.andThen_ok, heq, cond_false]
     ·cases hr
    ·cases hr
   ·cases hr
   ·cases hr
  ·cases h
 ·cases h
theorem r_slice {t : TypeId} {x : Operand} {lo hi mx : Option Operand} (ho : o.op = .slice t x lo hi mx) (h : rSlice t x lo hi mx E fr s = .ok v) : ROk E ι o ρ w v := by
 unfold rSlice at h
 obtain ⟨p, _, hp, h⟩ := ael_ok hE H HR h
 obtain ⟨l, h', m, q1, q2, q3, q4, h⟩ := evO3_ok hE H h
 unfold aslice3 at h
 split at h
 ·rename_i k off
  obtain ⟨lc, hlc, e⟩ := hp
  split at h
  ·rename_i n elem hd
   split at h
   ·rename_i size hsz
    obtain ⟨y, hy, hrun, hye⟩ := cutA_run hE HR q1 q2 q3 q4 hlc h
    refine ⟨y, hy, ?_⟩
    simp only [execOp, ho, e, Sem.run_bind, Instr.sliceAt, und_run hE hd, Result.andThen_ok, Instr.sureAddr, Sem.run_pure, hrun w, tsz_run hE hsz, hye]
   ·cases h
  ·rename_i arr hd
   split at h
   ·rename_i n elem hd2
    split at h
    ·rename_i size hsz
     obtain ⟨y, hy, hrun, hye⟩ := cutA_run hE HR q1 q2 q3 q4 hlc h
     refine ⟨y, hy, ?_⟩
     simp only [execOp, ho, e, Sem.run_bind, Instr.sliceAt, Instr.slice, und_run hE hd, und_run hE hd2, Result.andThen_ok, asAddr, Sem.run_pure, hrun w, tsz_run hE hsz, hye]
    ·cases h
   ·cases h
   ·cases h
  ·cases h
  ·cases h
 ·cases h
theorem rd_ok {g : RdF} (hc : rdOf (cls o.op) = some g) (h : g E fr s = .ok v) : ROk E ι o ρ w v := by
 cases hop : o.op with
 | load t a => rw [hop] at hc; injection hc with hc; subst hc; exact r_load hE H HR hop h
 | lookup t x i ok => rw [hop] at hc; injection hc with hc; subst hc; exact r_lookup hE H HR hop h
 | entry it => rw [hop] at hc; injection hc with hc; subst hc; exact r_entry hE H HR hop h
 | binOp op t x y t' => rw [hop] at hc; injection hc with hc; subst hc; exact r_bin hE H HR hop h
 | slice t x lo hi mx => rw [hop] at hc; injection hc with hc; subst hc; exact r_slice hE H HR hop h
 | call c =>
  rw [hop] at hc
  obtain ⟨callee, args, ts⟩ := c
  cases callee with
  | value f => cases hc
  | invoke r m => cases hc
  | builtin b =>
   cases b with
   | len => injection hc with hc; subst hc; exact r_len hE H HR hop h
   | _ => cases hc
 | _ => rw [hop] at hc; cases hc
end
end Go.Ev
namespace Go.Ev
theorem newRow_run {P : Program} {t : TypeId} {c : Array Value} (w : World) : (newRow t c).run P w = .ok ⟨w.heap.size, 0, none⟩ { w with heap := w.heap.push (.cells c t (0, 0)) } := by
 simp [newRow, newObj, Sem.run_bind, Sem.run]
theorem rep_length (l : List AV) : ∀ n, (rep l n).length = n * l.length
 | 0 => by simp [rep]
 | n + 1 => by simp [rep, rep_length l n, Nat.add_mul]; omega
theorem rep_get (l : List AV) : ∀ (n i : Nat), i < n * l.length → (rep l n)[i]? = l[i % l.length]?
 | 0, i, h => by simp at h
 | n + 1, i, h => by
  simp only [rep]
  by_cases hi : i < l.length
  ·rw [List.getElem?_append_left hi, Nat.mod_eq_of_lt hi]
  ·rw [List.getElem?_append_right (by omega), rep_get l n (i - l.length) (by rw [Nat.add_mul] at h; omega)]
   congr 1
   have : i = (i - l.length) + l.length := by omega
   rw [this, Nat.add_mod_right]
   congr 1
   omega
theorem rep_rel {ι : Io} {z : AV} {zv : Value} (hz : rel ι z zv) (n size : Nat) (hs : (cellsOf z).length = size) :
  relL ι (rep (cellsOf z) n) ((Array.range (n * size)).map (zv.cells[· % zv.cells.size]!)).toList := by
 have hc := cells_rel hz
 have hl : zv.cells.size = size := by rw [← hs]; simpa using hc.length
 refine relL.of (by simp [rep_length, hs]) fun i x hx => ?_
 have hi : i < n * (cellsOf z).length := by
  have := (List.getElem?_eq_some_iff.1 hx).1
  rwa [rep_length] at this
 rw [rep_get _ n i hi, hs] at hx
 obtain ⟨y, h1, h2⟩ := hc.get _ x hx
 refine ⟨y, ?_, h2⟩
 have hi' : i < n * size := by rw [← hs]; exact hi
 simp only [Array.toList_map, List.getElem?_map, Array.toList_range, List.getElem?_range hi', Option.map_some, hl]
 congr 1
 have h1' : zv.cells[i % size]? = some y := by simpa using h1
 rw [getElem!_def, h1']
/-- an operation that lays a block, and turns nothing else -/
def NewOk (E : Env) (ι : Io) (o : Oper) (ρ : Operand → Value) (s : St) (v : AV) (s' : St) : Prop :=
 ∃ b, s' = s.new b ∧ ∀ w, ∃ x ob n, (execOp ρ o).run E.P w = .ok (.value x) { w with heap := w.heap.push ob } ∧ BRel ι ⟨w.heap.size, 0, n⟩ b ob ∧ ∀ ι' : Io, ι' s.nx = some ⟨w.heap.size, 0, n⟩ → rel ι' v x
theorem relC_of {ι : Io} {cs : List AV} {c : Array Value} (h : relL ι cs c.toList) : relC ι 0 cs c := fun i a hi => by
 obtain ⟨y, h1, h2⟩ := h.get i a hi
 exact ⟨y, by rw [Nat.zero_add]; simpa using h1, h2⟩
theorem afill_len {place : Nat → Option (Nat × Nat)} : ∀ (ps : List (Nat × AV)) (cs r : List AV), afill place cs ps = .ok r → r.length = cs.length
 | [], cs, r, h => by simp [afill] at h; rw [h]
 | (i, a) :: ps, cs, r, h => by
  simp only [afill] at h
  cases hpl : place i with
  | none => rw [hpl] at h; cases h
  | some x =>
   obtain ⟨off, size⟩ := x
   rw [hpl] at h
   simp only at h
   rw [R.cond_ok] at h
   obtain ⟨_, h⟩ := h
   cases hs : setAt cs off (cellsOf a) with
   | err c => rw [hs] at h; cases h
   | ok cs' =>
    rw [hs] at h
    rw [afill_len ps cs' r h, (setAt_spec cs off _ cs' hs).1]
section
variable {E : Env} (hE : EnvOk E) {ι : Io} {fr : Fr} {ρ : Operand → Value} (H : ERel ι fr ρ) {o : Oper} {s s' : St} {v : AV}
include hE H
theorem n_alloc {t : TypeId} (ho : o.op = .alloc t) (h : nAlloc t E fr s = .ok (v, s')) : NewOk E ι o ρ s v s' := by
 unfold nAlloc at h
 split at h
 ·rename_i z hz
  injection h with h; injection h with h1 h2; subst h1; subst h2
  obtain ⟨zv, hz1, hz2⟩ := zer_run hE hz
  refine ⟨_, rfl, fun w => ⟨_, .cells zv.cells t (0, 0), zv.cells.size, ?_, ⟨_, _, rfl, rfl, relC_of (cells_rel (hz1 ι)), fun _ => rfl⟩, fun ι' hι => ⟨_, hι, rfl⟩⟩⟩
  simp only [execOp, ho, Instr.alloc, Sem.run_bind, hz2 w, Result.andThen_ok, newVar, newRow_run, Sem.run_pure]
 ·cases h
theorem n_box {t : TypeId} {x : Operand} (ho : o.op = .box t x) (h : nBox x E fr s = .ok (v, s')) : NewOk E ι o ρ s v s' := by
 unfold nBox at h
 split at h
 ·rename_i p hp
  injection h with h; injection h with h1 h2; subst h1; subst h2
  refine ⟨_, rfl, fun w => ⟨_, .cells (ρ x).cells t (0, 0), (ρ x).cells.size, ?_, ⟨_, _, rfl, rfl, relC_of (cells_rel (H _ _ hp)), fun _ => rfl⟩, fun ι' hι => ⟨_, hι, rfl⟩⟩⟩
  simp only [execOp, ho, Instr.box, Sem.run_bind, Result.andThen_ok, newVar, newRow_run, Sem.run_pure]
 ·cases h
theorem n_makeMap {t : TypeId} {r : Option Operand} (ho : o.op = .makeMap t r) (h : nMakeMap t r E fr s = .ok (v, s')) : NewOk E ι o ρ s v s' := by
 unfold nMakeMap at h
 have hnew : ∀ w : World, (newObj (.map #[] 0)).run E.P w = .ok w.heap.size { w with heap := w.heap.push (.map #[] 0) } := fun w => by simp [newObj, Sem.run]
 split at h
 ·injection h with h; injection h with h1 h2; subst h1; subst h2
  refine ⟨_, rfl, fun w => ⟨_, .map #[] 0, 0, ?_, ⟨[], rfl, rfl⟩, fun ι' hι => ⟨_, hι, rfl⟩⟩⟩
  simp only [execOp, ho, Option.map_none, Instr.makeMap, Sem.run_bind, Result.andThen_ok, Sem.run_pure, hnew]
 ·rename_i x
  split at h
  ·rename_i k e hd
   split at h
   ·rename_i a ha
    split at h
    ·rename_i n hn
     injection h with h; injection h with h1 h2; subst h1; subst h2
     obtain ⟨ik, hik⟩ := asI_rel hE H hn (H _ _ ha)
     refine ⟨_, rfl, fun w => ⟨_, .map #[] 0, 0, ?_, ⟨[], rfl, rfl⟩, fun ι' hι => ⟨_, hι, rfl⟩⟩⟩
     simp only [execOp, ho, Option.map_some, hik, Instr.makeMap, asInt, asIntOf, Sem.run_bind, und_run hE hd, Result.andThen_ok, Sem.run_pure, hnew]
    ·cases h
   ·cases h
  ·cases h
  ·cases h
theorem n_buildSlice {t : TypeId} {len : Nat} {parts : Array (Nat × Operand)} (ho : o.op = .buildSlice t len parts) (h : nBuildSlice t len parts E fr s = .ok (v, s')) : NewOk E ι o ρ s v s' := by
 unfold nBuildSlice at h
 split at h
 ·rename_i ps hps
  have hp := evParts_rel H hps
  have epl : (List.map (fun p : Nat × Operand => (p.1, ρ p.2)) parts.toList) = (parts.map fun p => (p.1, ρ p.2)).toList := by simp
  rw [epl] at hp
  unfold abuildSlice at h
  split at h
  ·rename_i elem hd
   split at h
   ·rename_i size hsz
    split at h
    ·rename_i z hz
     rw [R.cond_ok, Bool.and_eq_true, Bool.and_eq_true, ble_eq, ble_eq, beq_eq] at h
     obtain ⟨⟨g1, g3, g2⟩, h⟩ := h
     have g1 := of_decide_eq_true g1
     have g3 := of_decide_eq_true g3
     have g2 := of_decide_eq_true g2
     split at h
     ·rename_i cs hcs
      injection h with h; injection h with h1 h2; subst h1; subst h2
      obtain ⟨zv, hz1, hz2⟩ := zer_run hE hz
      have hzl : zv.cells.size = size := by rw [← g2]; simpa using (cells_rel (hz1 ι)).length
      obtain ⟨cells', q1, q2⟩ := fill_rel (place' := fun i => some (i * size, size)) (fun i x hx => hx) _ _ _ _ cs hp (rep_rel (hz1 ι) len size g2) hcs
      have hsize : cells'.size = len * size := by
       have e1 := q2.length
       rw [afill_len _ _ _ hcs, rep_length, g2] at e1
       simpa using e1
      refine ⟨_, rfl, fun w => ⟨.slice (some ⟨w.heap.size, 0, none⟩) len len, .cells cells' elem (0, 0), cells'.size, ?_, ⟨_, _, rfl, rfl, relC_of q2, fun _ => rfl⟩, fun ι' hι => ⟨_, 0, len, hι, rfl, fun _ => rfl, fun _ => rfl, Nat.le_refl _, Nat.le_refl _, by show 0 + len * size ≤ cells'.size; omega, by omega⟩⟩⟩
      by_cases h0 : len * size = 0
      ·have e : ((Array.range (len * size)).map (zv.cells[· % zv.cells.size]!)) = ((Array.range (len * size)).map ((#[] : Array Value)[· % (#[] : Array Value).size]!)) := by rw [h0]; simp
       rw [e, h0] at q1
       have hbig : ¬ 0 > 2 ^ 24 := by omega
       simp only [execOp, ho, Instr.buildSlice, Sem.run_bind, und_run hE hd, tsz_run hE hsz, Result.andThen_ok, h0, hbig, if_false, if_true, Sem.run_pure, q1, newRow_run]
      ·have hbig : ¬ len * size > 2 ^ 24 := by omega
       simp only [execOp, ho, Instr.buildSlice, Sem.run_bind, und_run hE hd, tsz_run hE hsz, Result.andThen_ok, hbig, if_false, h0, Sem.run_pure, hz2 w, q1, newRow_run]
     ·cases h
    ·cases h
   ·cases h
  ·cases h
  ·cases h
 ·cases h
theorem n_makeSlice {t : TypeId} {l c : Operand} (ho : o.op = .makeSlice t l c) (h : nMakeSlice t l c E fr s = .ok (v, s')) : NewOk E ι o ρ s v s' := by
 unfold nMakeSlice at h
 split at h
 ·rename_i la hla
  split at h
  ·rename_i ca hca
   unfold amakeSlice at h
   split at h
   ·rename_i elem hd
    split at h
    ·rename_i ln hln
     split at h
     ·rename_i cn hcn
      split at h
      ·rename_i size hsz
       split at h
       ·rename_i z hz
        rw [R.cond_ok, Bool.and_eq_true, Bool.and_eq_true, Bool.and_eq_true, ble_eq, ble_eq, beq_eq] at h
        obtain ⟨⟨g1, g2, g3, g4⟩, h⟩ := h
        have g1 := of_decide_eq_true g1
        have g2 := of_decide_eq_true g2
        have g3 := of_decide_eq_true g3
        injection h with h; injection h with h1 h2; subst h1; subst h2
        obtain ⟨zv, hz1, hz2⟩ := zer_run hE hz
        obtain ⟨k1, hk1⟩ := asI_rel hE H hln (H _ _ hla)
        obtain ⟨k2, hk2⟩ := asI_rel hE H hcn (H _ _ hca)
        obtain ⟨inf, hinf, hby⟩ : ∃ i, E.P.info? elem = some i ∧ i.bytes ≤ 1000000 := by
         unfold bytesOk at g4
         cases hg : E.ty.get elem with
         | none => rw [hg] at g4; cases g4
         | some i =>
          have := hE.ty elem i hg
          subst this
          simp only [hg, tyOf] at g4
          cases hi : E.P.info? elem with
          | none => rw [hi] at g4; cases g4
          | some i => rw [hi] at g4; simp only [ble_eq] at g4; exact ⟨i, rfl, of_decide_eq_true g4⟩
        have hty : ∀ w, (typeInfo elem).run E.P w = .ok inf w := fun w => by simp [typeInfo, go_sem, hinf]
        have w1 : IntKind.i64.wrap (ln : Int) = ln := wrap_i64 _ (by show Nat.ble ln _ = true; rw [ble_eq]; exact decide_eq_true (by omega))
        have w2 : IntKind.i64.wrap (cn : Int) = cn := wrap_i64 _ (by show Nat.ble cn _ = true; rw [ble_eq]; exact decide_eq_true (by omega))
        have hprod : inf.bytes * cn ≤ 1000000 * 10000 := Nat.mul_le_mul hby g2
        have t1 : ((cn : Int) < 0 || (inf.bytes : Int) * (cn : Int) > 2 ^ 48) = false := by
         have h3 : inf.bytes * cn ≤ 281474976710656 := Nat.le_trans hprod (by decide)
         have h2 : ¬ ((cn : Int) < 0) := by omega
         have h5 : ((inf.bytes * cn : Nat) : Int) ≤ (281474976710656 : Int) := Int.ofNat_le.2 h3
         have h4 : (inf.bytes : Int) * (cn : Int) ≤ 281474976710656 := by rw [← Int.natCast_mul]; exact h5
         simp [h2, h4]
        have hlen : ((Array.range (cn * size)).map (zv.cells[· % zv.cells.size]!)).size = cn * size := by simp
        refine ⟨_, rfl, fun w => ⟨.slice (some ⟨w.heap.size, 0, none⟩) ln cn, .cells ((Array.range (cn * size)).map (zv.cells[· % zv.cells.size]!)) elem (0, 0), cn * size, ?_,
         ⟨_, _, rfl, hlen, relC_of (rep_rel (hz1 ι) cn size g3), fun _ => rfl⟩, fun ι' hι => ⟨_, 0, cn, hι, rfl, fun _ => rfl, fun _ => rfl, Nat.le_refl _, g1, by show 0 + cn * size ≤ cn * size; omega, by omega⟩⟩⟩
        have c1 : ¬ ((ln : Int) < 0) := by omega
        have c2 : ¬ ((ln : Int) > (cn : Int)) := by omega
        have hroom : ∀ n : Nat, (askRoom n).run E.P w = .ok () w := fun n => by unfold askRoom; split <;> simp [mark, Sem.run, Sem.run_pure]
        by_cases h0 : cn * size = 0
        ·have e : ((Array.range (cn * size)).map (zv.cells[· % zv.cells.size]!)) = ((Array.range (cn * size)).map ((#[] : Array Value)[· % (#[] : Array Value).size]!)) := by rw [h0]; simp
         rw [e]
         simp only [execOp, ho, hk1, hk2, Instr.makeSlice, asInt, asIntOf, Sem.run_bind, und_run hE hd, hty w, Result.andThen_ok, Sem.run_pure, w1, w2, t1, c1, c2, decide_false, Bool.or_self, Bool.false_eq_true, if_false, hroom, Int.toNat_natCast, tsz_run hE hsz, h0, if_true, newRow_run]
        ·simp only [execOp, ho, hk1, hk2, Instr.makeSlice, asInt, asIntOf, Sem.run_bind, und_run hE hd, hty w, Result.andThen_ok, Sem.run_pure, w1, w2, t1, c1, c2, decide_false, Bool.or_self, Bool.false_eq_true, if_false, hroom, Int.toNat_natCast, tsz_run hE hsz, h0, hz2 w, newRow_run]
       ·cases h
      ·cases h
     ·cases h
    ·cases h
   ·cases h
   ·cases h
  ·cases h
 ·cases h
theorem new_ok {g : NewF} (hc : cls o.op = .new g) (h : g E fr s = .ok (v, s')) : NewOk E ι o ρ s v s' := by
 cases hop : o.op with
 | alloc t => rw [hop] at hc; injection hc with hc; subst hc; exact n_alloc hE H hop h
 | box t x => rw [hop] at hc; injection hc with hc; subst hc; exact n_box hE H hop h
 | buildSlice t l p => rw [hop] at hc; injection hc with hc; subst hc; exact n_buildSlice hE H hop h
 | makeMap t r => rw [hop] at hc; injection hc with hc; subst hc; exact n_makeMap hE H hop h
 | makeSlice t l c => rw [hop] at hc; injection hc with hc; subst hc; exact n_makeSlice hE H hop h
 | call c =>
  rw [hop] at hc
  obtain ⟨callee, args, ts⟩ := c
  cases callee with
  | value f => cases hc
  | invoke r m => cases hc
  | builtin b => cases b <;> cases hc
 | _ => rw [hop] at hc; cases hc
end
end Go.Ev
namespace Go.Ev
/-- only one block is another one -/
structure Upd (w w' : World) (b : Nat) : Prop where
 size : w'.heap.size = w.heap.size
 other : ∀ q, q ≠ b → w'.heap[q]? = w.heap[q]?
 os : w'.os = w.os
 tape : w'.tape = w.tape
 output : w'.output = w.output
theorem Upd.refl (w : World) (b : Nat) : Upd w w b := ⟨rfl, fun _ _ => rfl, rfl, rfl, rfl⟩
theorem Upd.trans {a b c : World} {k : Nat} (h : Upd a b k) (h' : Upd b c k) : Upd a c k :=
 ⟨h'.size.trans h.size, fun q hq => (h'.other q hq).trans (h.other q hq), h'.os.trans h.os, h'.tape.trans h.tape, h'.output.trans h.output⟩
theorem store_run {P : Program} {w : World} {b o : Nat} {c : Array Value} {t : TypeId} {v : Value} (h : w.heap[b]? = some (.cells c t (0, 0))) (ho : o < c.size) (hv : scal v = true) :
  ∃ w', (store ⟨b, o, none⟩ v).run P w = .ok () w' ∧ w'.heap[b]? = some (.cells (c.setIfInBounds o v) t (0, 0)) ∧ Upd w w' b := by
 have hc : w.cell? ⟨b, o, none⟩ = some c[o] := by rw [cell_of h, Array.getElem?_eq_getElem ho]
 have hf : w.frozen? ⟨b, o, none⟩ = false := by simp [World.frozen?, h]
 refine ⟨w.setCell ⟨b, o, none⟩ v, ?_, ?_, ?_, ?_, rfl, rfl, rfl⟩
 ·unfold store
  cases v <;> first | (simp [scal] at hv; done) | simp [Sem.run, hc, hf]
 ·simp only [World.setCell]
  rw [Array.getElem?_modify]
  simp [h]
 ·simp [World.setCell]
 ·intro q hq
  simp only [World.setCell]
  rw [Array.getElem?_modify]
  simp [Ne.symm hq]
theorem storeCells_run {P : Program} {b o : Nat} {t : TypeId} : ∀ (vs : List Value) (i : Nat) (w : World) (c : Array Value), w.heap[b]? = some (.cells c t (0, 0)) → (0 < vs.length → o + i + vs.length ≤ c.size) → (∀ v ∈ vs, scal v = true) →
  ∃ w' c', (storeCells ⟨b, o, none⟩ vs i).run P w = .ok () w' ∧ w'.heap[b]? = some (.cells c' t (0, 0)) ∧ c'.size = c.size ∧ Upd w w' b ∧
   ∀ j : Nat, c'[j]? = if o + i ≤ j ∧ j < o + i + vs.length then vs[j - (o + i)]? else c[j]?
 | [], i, w, c, h, hl, hs => ⟨w, c, rfl, h, rfl, Upd.refl _ _, fun j => by simp; intro h1 h2; omega⟩
 | v :: vs, i, w, c, h, hl, hs => by
  have hl := hl (by simp)
  simp only [List.length_cons] at hl ⊢
  obtain ⟨w1, r1, r2, r3⟩ := store_run (P := P) (o := o + i) h (by omega) (hs v (by simp))
  obtain ⟨w2, c2, q1, q2, q3, q4, q5⟩ := storeCells_run (P := P) (b := b) (o := o) (t := t) vs (i + 1) w1 _ r2 (fun _ => by simp; omega) (fun x hx => hs x (by simp [hx]))
  refine ⟨w2, c2, ?_, q2, by rw [q3]; simp, r3.trans q4, fun j => ?_⟩
  ·simp only [storeCells, add_none, Sem.run_bind, r1, Result.andThen_ok, q1]
  ·rw [q5 j]
   by_cases e : j = o + i
   ·subst e
    rw [if_neg (by omega), if_pos (by omega)]
    have : o + i < c.size := by omega
    simp [this]
   ·by_cases e2 : o + (i + 1) ≤ j ∧ j < o + (i + 1) + vs.length
    ·rw [if_pos e2, if_pos (by omega)]
     have : j - (o + i) = (j - (o + (i + 1))) + 1 := by omega
     rw [this, List.getElem?_cons_succ]
    ·rw [if_neg e2, if_neg (by omega), Array.getElem?_setIfInBounds, if_neg (fun h => e h.symm)]
theorem flat_scal {ι : Io} {a : AV} {v : Value} (hf : flat a = true) (h : rel ι a v) : scal v = true := by
 cases a with
 | g w => obtain ⟨rfl, h2⟩ := h; exact h2
 | ptr => obtain ⟨l, _, rfl⟩ := h; rfl
 | slice => obtain ⟨l, _, _, _, rfl, _⟩ := h; rfl
 | map => obtain ⟨l, _, rfl⟩ := h; rfl
 | func => obtain ⟨_, _, rfl, _⟩ := h; rfl
 | iface => obtain ⟨_, rfl, _⟩ := h; rfl
 | agg => simp [flat] at hf
 | tuple => simp [flat] at hf
theorem flatL_scal {ι : Io} : ∀ {as : List AV} {vs : List Value}, flatL as = true → relL ι as vs → ∀ v ∈ vs, scal v = true
 | [], vs, _, h, v, hv => by rw [show vs = [] from h] at hv; cases hv
 | a :: as, _, hf, ⟨v, vs, rfl, h1, h2⟩, x, hx => by
  simp only [flatL] at hf
  cases ha : flat a with
  | false => rw [ha] at hf; cases hf
  | true =>
   rw [ha] at hf
   rcases List.mem_cons.1 hx with rfl | hx
   ·exact flat_scal ha h1
   ·exact flatL_scal hf h2 x hx
/-- a row of cells is written: the world -/
theorem wcells_run {E : Env} {ι : Io} {s s' : St} {w : World} (HR : HRel ι s w) {k off : Nat} {as : List AV} (h : wcells s k off as = .ok s') {l : Loc} (hl : ι k = some l) {vs : List Value} (hv : relL ι as vs) :
  ∃ w', (storeCells ⟨l.b, l.s + off, none⟩ vs).run E.P w = .ok () w' ∧ Stp ι s w ι s' w' := by
 unfold wcells at h
 cases hf : flatL as with
 | false => rw [hf] at h; cases h
 | true =>
  rw [hf] at h
  simp only [cond_true] at h
  split at h
  ·rename_i cs hcs
   split at h
   ·rename_i cs' hs
    have hmb : mbx cs' = true → mbx cs = true := by
     intro hm
     rw [hm] at h
     cases hc : mbx cs with
     | true => rfl
     | false => rw [hc] at h; cases h
    have hne : (mbx cs' && not (mbx cs)) = false := by
     cases h1 : mbx cs' with
     | false => rfl
     | true => rw [hmb h1]; rfl
    rw [hne] at h
    injection h with h; subst h
    unfold acells at hcs
    split at hcs
    ·rename_i cs0 hk
     injection hcs with hcs; subst hcs
     obtain ⟨l', o, q1, q2, c, t, q3, q4, q5, q6⟩ := HR.blk k _ hk
     rw [hl] at q1; injection q1 with q1; subst q1
     subst q3
     obtain ⟨s1, s2, s3⟩ := setAt_spec cs0 off as cs' hs
     have hlen := hv.length
     have hfit : 0 < vs.length → l.s + off + 0 + vs.length ≤ c.size := by
      intro e
      have : off + vs.length - 1 < cs0.length := by omega
      obtain ⟨v, g1, _⟩ := q5 _ _ (List.getElem?_eq_getElem this)
      have := (Array.getElem?_eq_some_iff.1 g1).1
      omega
     obtain ⟨w', c', r1, r2, r3, r4, r5⟩ := storeCells_run (P := E.P) vs 0 w c q2 hfit (flatL_scal hf hv)
     refine ⟨w', r1, Stp.put HR hk hl ⟨c', t, rfl, by rw [r3]; exact q4, fun i a ha => ?_, fun hm => q6 (hmb hm)⟩ r2 r4.size r4.other r4.os r4.tape r4.output⟩
     rw [s3 i] at ha
     rw [r5 (l.s + i)]
     by_cases e : off ≤ i ∧ i < off + as.length
     ·rw [if_pos e] at ha
      rw [if_pos (by omega)]
      have : l.s + i - (l.s + off + 0) = i - off := by omega
      rw [this]
      exact hv.get _ a ha
     ·rw [if_neg e] at ha
      rw [if_neg (by omega)]
      exact q5 i a ha
    ·cases hcs
    ·cases hcs
   ·cases h
  ·cases h

/-- an operation that writes: one of these comes of it -/
def WOk (E : Env) (ι : Io) (o : Oper) (ρ : Operand → Value) (s : St) (w : World) (l : List (AV × St)) : Prop :=
 ∀ (a : Act), a.eval = ρ → ∀ (next : Act → World → Prop) (Q : Exit → Act → World → Prop),
  (∀ p ∈ l, ∀ x w' ι', Stp ι s w ι' p.2 w' → rel ι' p.1 x → next (a.put o.dst x) w') → o.wp E.P a w next Q
theorem w_value {E : Env} {ι ι' : Io} {o : Oper} {ρ : Operand → Value} {s : St} {w w' : World} {l : List (AV × St)} {x : Value} {p : AV × St} (hp : p ∈ l)
  (hrun : (execOp ρ o).run E.P w = .ok (.value x) w') (hs : Stp ι s w ι' p.2 w') (hx : rel ι' p.1 x) : WOk E ι o ρ s w l := by
 intro a ha next Q hn
 unfold Oper.wp
 rw [ha, hrun]
 exact hn p hp x w' ι' hs hx
theorem w_skip {E : Env} {ι ι' : Io} {o : Oper} {ρ : Operand → Value} {s : St} {w w' : World} {l : List (AV × St)} {s' : St} (hp : ((.tuple [], s') : AV × St) ∈ l)
  (hrun : (execOp ρ o).run E.P w = .ok .skip w') (hs : Stp ι s w ι' s' w') : WOk E ι o ρ s w l := by
 intro a ha next Q hn
 unfold Oper.wp
 rw [ha, hrun]
 exact hn _ hp undef w' ι' hs ⟨[], rfl, rfl⟩
theorem unit_ok {x : R St} {l : List (AV × St)} (h : unit x = .ok l) : ∃ s', x = .ok s' ∧ l = [(.tuple [], s')] := by
 cases x with
 | ok s => injection h with h; exact ⟨s, rfl, h.symm⟩
 | err c => cases h
theorem one_ok {α : Type} {x : R α} {l : List α} (h : one x = .ok l) : ∃ p, x = .ok p ∧ l = [p] := by
 cases x with
 | ok s => injection h with h; exact ⟨s, rfl, h.symm⟩
 | err c => cases h
section
variable {E : Env} (hE : EnvOk E) {ι : Io} {s s' : St} {w : World} (HR : HRel ι s w)
include hE HR
theorem astore_ok {t : TypeId} {p q : AV} {x y : Value} (h : astore E s t p q = .ok s') (hp : rel ι p x) (hq : rel ι q y) : ∃ w', (Instr.storeAt t x y).run E.P w = .ok () w' ∧ Stp ι s w ι s' w' := by
 unfold astore at h
 split at h
 ·rename_i k off
  split at h
  ·rename_i n hn
   rw [R.cond_ok, beq_eq] at h
   obtain ⟨g, h⟩ := h
   have g := of_decide_eq_true g
   obtain ⟨lc, hlc, e⟩ := hp
   have hv := cells_rel hq
   obtain ⟨w', r1, r2⟩ := wcells_run (E := E) HR h hlc hv
   refine ⟨w', ?_, r2⟩
   have hsz : ¬ y.cells.size ≠ n := by
    have := hv.length
    simp at this
    omega
   simp only [e, Instr.storeAt, Instr.sureAddr, storeVar, Sem.run_bind, Sem.run_pure, Result.andThen_ok, tsz_run hE hn, hsz, if_false, r1]
  ·cases h
 ·cases h
/-- a slice's elements, read -/
theorem sliceCells_ok {y : AV} {news : List AV} {n : Nat} (hn : lenA y = .ok n) (h : sliceCells s y = .ok news) {v : Value} (hv : rel ι y v) (size : Nat) (he : eszOk size y = true) :
  ∃ vs, relL ι news vs ∧ vs.length = n * size ∧ (Builtin.lenOf v).run E.P w = .ok n w ∧ ∀ w1 : World, w1.heap = w.heap → (Builtin.firstCells size n v).run E.P w1 = .ok (List.toArray vs) w1 := by
 unfold lenA at hn
 split at hn
 ·injection hn with hn; subst hn
  simp [sliceCells] at h; subst h
  obtain ⟨rfl, _⟩ := hv
  exact ⟨[], rfl, by simp, rfl, fun w1 _ => rfl⟩
 ·rename_i k off len ex c esz
  injection hn with hn; subst hn
  simp only [eszOk, beq_eq] at he
  have he := of_decide_eq_true he
  subst he
  obtain ⟨l, o, cap, hl, rfl, q1, q2, q3, q4, q5, q6⟩ := hv
  have key : ∃ vs, relL ι news vs ∧ vs.length = len * size ∧ ∀ (j : Nat) (x : Value), vs[j]? = some x → w.cell? ⟨l.b, o + j, none⟩ = some x := by
   by_cases h0 : len = 0
   ·subst h0
    have : news = [] := by simp [sliceCells] at h; exact h
    subst this
    exact ⟨[], rfl, by simp, fun j x hx => by simp at hx⟩
   ·have hb : Nat.beq len 0 = false := by rw [beq_eq]; simp [h0]
    simp only [sliceCells, hb, cond_false] at h
    split at h
    ·rename_i cs hcs
     obtain ⟨l', c', ty, f, r1, r2, r3, r4⟩ := cells_of HR hcs
     rw [hl] at r1; injection r1 with r1; subst r1
     obtain ⟨vs, g1, g2, g3⟩ := run_of r4 h
     have ho := q1 (by omega)
     subst ho
     exact ⟨vs, g1, g2, fun j x hx => by rw [cell_of r2]; exact g3 j x hx⟩
    ·cases h
  obtain ⟨vs, g1, g2, g3⟩ := key
  exact ⟨vs, g1, g2, rfl, fun w1 hw1 => loadCells_run (P := E.P) (w := w1) (b := l.b) (o := o) g2 fun j x hx => by
   have := g3 j x hx
   simpa [World.cell?, hw1] using this⟩
 ·cases hn
end
end Go.Ev
namespace Go.Ev
theorem grow_le (N : Nat) : ∀ (r c : Nat), c ≤ 2 * N + 192 → Builtin.growBy N r c ≤ 2 * N + 192
 | 0, c, h => h
 | r + 1, c, h => by
  unfold Builtin.growBy
  split
  ·exact h
  ·exact grow_le N r _ (by omega)
theorem nextcap_le {N c : Nat} (h : c < N) : Builtin.nextslicecap N c ≤ 2 * N + 192 := by
 unfold Builtin.nextslicecap
 split
 ·omega
 ·split
  ·omega
  ·exact grow_le N 4 c (by omega)
section
variable {E : Env} (hE : EnvOk E) {ι : Io} {s s' : St} {w : World} (HR : HRel ι s w)
include hE HR
theorem noZeros_ok {ts : Array TypeId} (h : noZeros E ts = true) : ∃ u d, ts[1]? = some u ∧ und E u = .ok d ∧ ∀ k, d ≠ .int k := by
 unfold noZeros at h
 cases ht : ts[1]? with
 | none => rw [ht] at h; cases h
 | some u =>
  rw [ht] at h
  simp only at h
  split at h
  ·cases h
  ·rename_i d hd hne
   exact ⟨u, d, rfl, hne, fun k e => by subst e; exact hd k rfl⟩
  ·cases h
theorem undA_sl {ts : Array TypeId} {elem : TypeId} (h : undA E ts = .ok (.slice elem)) : ∃ t, ts[0]? = some t ∧ und E t = .ok (.slice elem) := by
 unfold undA at h
 cases ht : ts[0]? with
 | none => rw [ht] at h; cases h
 | some t => rw [ht] at h; exact ⟨t, rfl, h⟩
theorem bytes_ok {t : TypeId} (h : bytesOk E t = true) : ∃ i, i.bytes ≤ 1000000 ∧ ∀ w, (typeInfo t).run E.P w = .ok i w := by
 unfold bytesOk at h
 cases hg : E.ty.get t with
 | none => rw [hg] at h; cases h
 | some i =>
  have := hE.ty t i hg
  subst this
  simp only [hg, tyOf] at h
  cases hi : E.P.info? t with
  | none => rw [hi] at h; cases h
  | some i => rw [hi] at h; simp only [ble_eq] at h; exact ⟨i, of_decide_eq_true h, fun w => by simp [typeInfo, go_sem, hi]⟩
/-- a new row behind an append -/
theorem app_new {s0 : St} (hs0 : s0 = s ∨ ∃ k b, s.h.get k = some b ∧ s0 = ⟨s.h.erase k, s.nx⟩) {olds news : List AV} {vo vn : List Value} (ho : relL ι olds vo) (hn : relL ι news vn) {size m n cap : Nat} (hvo : vo.length = m * size) (hvn : vn.length = n * size)
  (rest : Array Value) (hrest : rest.size = (cap - (m + n)) * size) (hc : m + n ≤ cap) (hcap : cap ≤ 9223372036854775807) (elem : TypeId) {v : AV} {s' : St} (h : appNew s0 olds news (m + n) size = .ok (v, s')) {w1 : World} (hw1 : w1.heap = w.heap) (h1 : w1.os = w.os) (h2 : w1.tape = w.tape) (h3 : w1.output = w.output) :
  ∃ ι', Stp ι s w ι' s' { w1 with heap := w1.heap.push (.cells (vo.toArray ++ vn.toArray ++ rest) elem (0, 0)) } ∧ rel ι' v (.slice (some ⟨w1.heap.size, 0, none⟩) (m + n) cap) := by
 unfold appNew at h
 cases hmb : mbx (olds ++ news) with
 | true => rw [hmb] at h; cases h
 | false =>
 rw [hmb] at h
 injection h with h; injection h with ha hb
 subst ha; subst hb
 have hsz : (vo.toArray ++ vn.toArray ++ rest).size = cap * size := by
  simp only [Array.size_append, List.size_toArray, hvo, hvn, hrest]
  rw [← Nat.add_mul, ← Nat.add_mul]; congr 1; omega
 have hnx : s.nx = s0.nx := by rcases hs0 with rfl | ⟨k, b, _, rfl⟩ <;> rfl
 have hsub : ∀ k b, s0.h.get k = some b → s.h.get k = some b := by
  rcases hs0 with rfl | ⟨k, b, _, rfl⟩
  ·exact fun _ _ h => h
  ·intro q bq hq
   simp only [T.get_erase] at hq
   by_cases e : q = k
   ·rw [if_pos e] at hq; cases hq
   ·rwa [if_neg e] at hq
 have hst := Stp.name (ι := ι) (s := s) (s0 := s0) (w := w) (w' := { w1 with heap := w1.heap.push (.cells (vo.toArray ++ vn.toArray ++ rest) elem (0, 0)) }) (b := .cells (olds ++ news)) (o := .cells (vo.toArray ++ vn.toArray ++ rest) elem (0, 0))
  (l := ⟨w.heap.size, 0, cap * size⟩) HR hsub hnx ⟨_, _, rfl, hsz, fun i a hi => ?_, fun _ => rfl⟩ (by simp [hw1]) (by simp [hw1]) (fun q hq _ => by simp [hw1, Array.getElem?_push, Nat.ne_of_lt hq]) (.inl (Nat.le_refl _)) h1 h2 h3
 ·refine ⟨_, hst, ?_⟩
  rw [← hnx]
  exact ⟨_, 0, cap, Io.up_self, by rw [hw1], fun _ => rfl, (fun e => by cases e), hc, Nat.le_refl _, by show 0 + cap * size ≤ cap * size; omega, hcap⟩
 ·have hrl := (ho.append hn).sub (Io.up_sub (l := ⟨w.heap.size, 0, cap * size⟩) (HR.fresh _ (Nat.le_refl _)))
  obtain ⟨y, g1, g2⟩ := hrl.get i a hi
  refine ⟨y, ?_, g2⟩
  have hlt := (List.getElem?_eq_some_iff.1 g1).1
  rw [Nat.zero_add, Array.getElem?_append_left (by simpa using hlt)]
  simpa using g1
theorem app_fit {ts : Array TypeId} {ty t u elem : TypeId} {du : TypeDesc} {y : Value} {base : Option Addr} {sLen sCap n size : Nat} {vn : List Value} {w' : World} (ht : ts[0]? = some t) (hd : und E t = .ok (.slice elem))
  (hu1 : ts[1]? = some u) (hu2 : und E u = .ok du) (hu3 : ∀ k, du ≠ .int k) (hsz : tsz E elem = .ok size) (n3 : (Builtin.lenOf y).run E.P w = .ok n w) (n4 : (Builtin.firstCells size n y).run E.P w = .ok (List.toArray vn) w)
  (hfit : sLen + n ≤ sCap) (hst : match base with | none => w' = w | some a => (storeCells (a.add (sLen * size)) vn).run E.P w = .ok () w') :
  (Builtin.append_ ts ty #[.slice base sLen sCap, y]).run E.P w = .ok (.slice base (sLen + n) sCap) w' := by
 have hzr : (du matches .int _) = false := by
  cases du <;> first | rfl | (exact absurd rfl (hu3 _))
 have e0 : (#[Value.slice base sLen sCap, y] : Array Value)[0]? = some (.slice base sLen sCap) := by simp
 have e1 : (#[Value.slice base sLen sCap, y] : Array Value)[1]? = some y := by simp
 simp only [Builtin.append_, ht, e0, e1, Sem.run_bind, und_run hE hd, Result.andThen_ok, tsz_run hE hsz, hu1, und_run hE hu2, Sem.run_pure, hzr, Bool.false_eq_true, if_false, n3, hfit, if_true, Bool.not_false, n4]
 cases base with
 | none => simp only at hst; subst hst; rfl
 | some a =>
  simp only at hst
  simp only [Sem.run_bind, hst, Result.andThen_ok]; rfl
theorem app_grow {ts : Array TypeId} {ty t u elem : TypeId} {du : TypeDesc} {inf : TypeInfo} {y zv : Value} {base : Option Addr} {sLen sCap n size : Nat} {vn vo : List Value} (ht : ts[0]? = some t) (hd : und E t = .ok (.slice elem))
  (hu1 : ts[1]? = some u) (hu2 : und E u = .ok du) (hu3 : ∀ k, du ≠ .int k) (hsz : tsz E elem = .ok size) (n3 : (Builtin.lenOf y).run E.P w = .ok n w) (n4 : ∀ w1 : World, w1.heap = w.heap → (Builtin.firstCells size n y).run E.P w1 = .ok (List.toArray vn) w1)
  (o4 : ∀ w1 : World, w1.heap = w.heap → (Builtin.firstCells size sLen (.slice base sLen sCap)).run E.P w1 = .ok (List.toArray vo) w1) (hinf : ∀ w, (typeInfo elem).run E.P w = .ok inf w) (hby : inf.bytes ≤ 1000000)
  (hz2 : ∀ w, (zeroValue elem).run E.P w = .ok zv w) (hfit : ¬ sLen + n ≤ sCap) (hsm : sLen + n ≤ 100000) :
  ∃ (w1 : World) (cap : Nat), w1.heap = w.heap ∧ w1.os = w.os ∧ w1.tape = w.tape ∧ w1.output = w.output ∧ sLen + n ≤ cap ∧ cap ≤ 9223372036854775807 ∧
   (Builtin.append_ ts ty #[.slice base sLen sCap, y]).run E.P w = .ok (.slice (some ⟨w1.heap.size, 0, none⟩) (sLen + n) cap) { w1 with heap := w1.heap.push (.cells (vo.toArray ++ vn.toArray ++ Builtin.zeroCells zv.cells (cap - (sLen + n))) elem (0, 0)) } := by
 have hzr : (du matches .int _) = false := by
  cases du <;> first | rfl | (exact absurd rfl (hu3 _))
 have e0 : (#[Value.slice base sLen sCap, y] : Array Value)[0]? = some (.slice base sLen sCap) := by simp
 have e1 : (#[Value.slice base sLen sCap, y] : Array Value)[1]? = some y := by simp
 obtain ⟨tp, htp⟩ : ∃ tp, tp = w.tape w.drawn (.appendCap (sLen + n) sCap elem) := ⟨_, rfl⟩
 have hch : (choose (.appendCap (sLen + n) sCap elem)).run E.P w = .ok (sLen + n + tp % (2 ^ 63 - (sLen + n))) { w with drawn := w.drawn + 1 } := by
  simp only [choose, Sem.run, Question.forced, Bool.false_eq_true, if_false, Question.cut, htp]
 have hmod : tp % (2 ^ 63 - (sLen + n)) < 2 ^ 63 - (sLen + n) := Nat.mod_lt _ (by omega)
 refine ⟨{ w with drawn := w.drawn + 1 }, sLen + n + tp % (2 ^ 63 - (sLen + n)), rfl, rfl, rfl, rfl, by omega, by omega, ?_⟩
 have hcap1 : Builtin.nextslicecap (sLen + n) sCap ≤ 200192 := Nat.le_trans (nextcap_le (by omega)) (by omega)
 have hcap2 : ¬ Builtin.nextslicecap (sLen + n) sCap * inf.bytes > 2 ^ 48 := by
  have := Nat.mul_le_mul hcap1 hby
  omega
 have hbig : ¬ (((sLen + n : Nat) : Int) > IntKind.i64.max ∧ (False ∨ inf.bytes = 0)) := by
  intro hh
  have := hh.1
  have e : IntKind.i64.max = 9223372036854775807 := by decide
  rw [e] at this
  omega
 have hroom : ∀ (n : Nat) (w : World), (askRoom n).run E.P w = .ok () w := fun n w => by unfold askRoom; split <;> simp [mark, Sem.run, Sem.run_pure]
 simp only [Builtin.append_, ht, e0, e1, Sem.run_bind, und_run hE hd, Result.andThen_ok, tsz_run hE hsz, hu1, und_run hE hu2, Sem.run_pure, hzr, Bool.false_eq_true, if_false, n3, hfit, hinf, hbig, hcap2, hch, hroom,
  o4 { w with drawn := w.drawn + 1 } rfl, n4 { w with drawn := w.drawn + 1 } rfl, Bool.not_false, if_true, hz2, newRow_run]
theorem olds_cells {k off len c esz : Nat} {ex : Bool} {olds cs : List AV} {l : Loc} {o : Nat} {cc : Array Value} (h : sliceCells s (.slice k off len ex c esz) = .ok olds) (ho : 0 < c → o = l.s + off) (hlen : len ≤ c)
  (hbk : s.h.get k = some (.cells cs)) (hr : relC ι l.s cs cc) (i : Nat) (a : AV) (hi : olds[i]? = some a) : ∃ y, cc[o + i]? = some y ∧ rel ι a y := by
 by_cases h0 : len = 0
 ·subst h0
  have : olds = [] := by simp [sliceCells] at h; exact h
  subst this
  simp at hi
 ·have hb : Nat.beq len 0 = false := by rw [beq_eq]; simp [h0]
  simp only [sliceCells, hb, cond_false, acellsR, hbk] at h
  have ho := ho (by omega)
  subst ho
  obtain ⟨h1, h2⟩ := subAt_get _ _ _ _ h
  have hin : i < len * esz := by
   have := (List.getElem?_eq_some_iff.1 hi).1; omega
  rw [h2 i hin] at hi
  obtain ⟨y, y1, y2⟩ := hr (off + i) a hi
  exact ⟨y, by rw [Nat.add_assoc]; exact y1, y2⟩
theorem aappend_ok {ts : Array TypeId} {ty : TypeId} {p q : AV} {x y : Value} {v : AV} (h : aappend E s ts p q = .ok (v, s')) (hp : rel ι p x) (hq : rel ι q y) :
  ∃ z w' ι', (Builtin.append_ ts ty #[x, y]).run E.P w = .ok z w' ∧ Stp ι s w ι' s' w' ∧ rel ι' v z := by
 unfold aappend at h
 split at h
 ·rename_i elem hd0
  obtain ⟨t, ht, hd⟩ := undA_sl hE HR hd0
  split at h
  ·rename_i size hsz
   split at h
   ·rename_i z hz
    split at h
    ·rename_i n hn
     split at h
     ·rename_i m hm
      split at h
      ·rename_i news hnews
       rw [R.cond_ok, Bool.and_eq_true, Bool.and_eq_true, Bool.and_eq_true, Bool.and_eq_true, ble_eq, beq_eq] at h
       obtain ⟨⟨g1, g2, g3, g4, g5⟩, h⟩ := h
       have g3 := of_decide_eq_true g3
       have g4 := of_decide_eq_true g4
       obtain ⟨u, du, hu1, hu2, hu3⟩ := noZeros_ok hE HR g1
       obtain ⟨inf, hinf1, hinf2⟩ := bytes_ok hE HR g2
       obtain ⟨zv, hz1, hz2⟩ := zer_run hE hz
       have hzs : zv.cells.size = size := by rw [← g4]; simpa using (cells_rel (hz1 ι)).length
       obtain ⟨vn, n1, n2, n3, hn4⟩ := sliceCells_ok hE HR hn hnews hq size g5
       have hzeros : (match du with | .int _ => true | _ => false) = false := by
        cases du <;> first | rfl | (exact absurd rfl (hu3 _))
       have n4 := hn4 w rfl
       unfold aappend2 at h
       split at h
       ·obtain ⟨rfl, _⟩ := hp
        simp only [lenA] at hm
        injection hm with hm; subst hm
        rw [beq_eq] at h
        by_cases hn0 : n = 0
        ·subst hn0
         simp only [decide_true, cond_true] at h
         injection h with h; injection h with ha hb; subst ha; subst hb
         exact ⟨_, w, ι, app_fit hE HR ht hd hu1 hu2 hu3 hsz n3 n4 (Nat.le_refl 0) rfl, Stp.refl HR, ⟨rfl, rfl⟩⟩
        ·simp only [hn0, decide_false, cond_false] at h
         obtain ⟨w1, cap, c1, c2, c3, c4, c5, c6, c7⟩ := app_grow (ty := ty) (base := none) (sLen := 0) (sCap := 0) (vo := []) hE HR ht hd hu1 hu2 hu3 hsz n3 hn4 (fun w1 _ => rfl) hinf2 hinf1 hz2 (by omega) g3
         have h' : appNew s [] news (0 + n) size = .ok (v, s') := by rw [Nat.zero_add]; exact h
         obtain ⟨ι', i1, i2⟩ := app_new hE HR (.inl rfl) (olds := []) (vo := []) (ho := rfl) n1 (m := 0) (by simp) n2 (Builtin.zeroCells zv.cells (cap - (0 + n))) (by simp [Builtin.zeroCells, hzs]) c5 c6 elem h' c1 c2 c3 c4
         exact ⟨_, _, ι', c7, i1, i2⟩
       ·rename_i k off len ex c esz
        rw [R.cond_ok, beq_eq] at h
        obtain ⟨g6, h⟩ := h
        have g6 := of_decide_eq_true g6
        subst g6
        have hp0 := hp
        obtain ⟨l, o, cap, hl, rfl, q1, q2, q3, q4, q5, q6⟩ := hp
        rw [beq_eq] at h
        by_cases hn0 : n = 0
        ·subst hn0
         simp only [decide_true, cond_true] at h
         injection h with h; injection h with ha hb; subst ha; subst hb
         have hvn : vn = [] := List.length_eq_zero_iff.1 (by rw [n2]; simp)
         subst hvn
         exact ⟨_, w, ι, app_fit hE HR ht hd hu1 hu2 hu3 hsz n3 n4 (by omega) rfl, Stp.refl HR, ⟨l, o, cap, hl, rfl, q1, q2, q3, q4, q5, q6⟩⟩
        ·simp only [hn0, decide_false, cond_false, ble_eq] at h
         by_cases hfit : len + n ≤ c
         ·simp only [hfit, decide_true, cond_true] at h
          unfold appIn at h
          split at h
          ·rename_i s1 hs1
           injection h with h; injection h with ha hb; subst ha; subst hb
           have ho := q1 (by omega)
           subst ho
           obtain ⟨w', r1, r2⟩ := wcells_run (E := E) HR hs1 hl n1
           refine ⟨_, w', ι, app_fit hE HR ht hd hu1 hu2 hu3 hsz n3 n4 (by omega) (w' := w') ?_, r2, ⟨l, l.s + off, cap, hl, rfl, fun _ => rfl, q2, q3, hfit, q5, q6⟩⟩
           simp only [add_none, Nat.add_assoc]
           exact r1
          ·cases h
         ·simp only [hfit, decide_false, cond_false] at h
          have hesz : eszOk size (.slice k off len ex c size) = true := by simp [eszOk]
          simp only [lenA] at hm
          injection hm with hm; subst hm
          cases ex with
          | true =>
           simp only [cond_true] at h
           have hcc := q2 rfl
           subst hcc
           unfold appEx at h
           split at h
           ·rename_i olds holds
            obtain ⟨vo, o1, o2, o3, o4⟩ := sliceCells_ok hE HR (rfl : lenA (.slice k off len true cap size) = .ok len) holds hp0 size hesz
            obtain ⟨w1, cap1, c1, c2, c3, c4, c5, c6, c7⟩ := app_grow (ty := ty) hE HR ht hd hu1 hu2 hu3 hsz n3 hn4 o4 hinf2 hinf1 hz2 hfit g3
            obtain ⟨ι', i1, i2⟩ := app_new hE HR (.inl rfl) o1 n1 o2 n2 (Builtin.zeroCells zv.cells (cap1 - (len + n))) (by simp [Builtin.zeroCells, hzs]) c5 c6 elem h c1 c2 c3 c4
            exact ⟨_, _, ι', c7, i1, i2⟩
           ·cases h
          | false =>
           simp only [cond_false] at h
           unfold appMay at h
           cases hfl : flatL news with
           | false => rw [hfl] at h; cases h
           | true =>
            rw [hfl] at h
            simp only [cond_true] at h
            split at h
            ·rename_i cs hcs
             split at h
             ·rename_i olds holds
              obtain ⟨vo, o1, o2, o3, o4⟩ := sliceCells_ok hE HR (rfl : lenA (.slice k off len false c size) = .ok len) holds hp0 size hesz
              obtain ⟨bk, hbk, hcs'⟩ : ∃ b, s.h.get k = some b ∧ b = .cells cs := by
               unfold acells at hcs
               split at hcs
               ·rename_i cs2 hk2; injection hcs with hcs; subst hcs; exact ⟨_, hk2, rfl⟩
               ·cases hcs
               ·cases hcs
              subst hcs'
              by_cases hc2 : len + n ≤ cap
              ·-- in place
               obtain ⟨l', ob, r1, r2, cc, tt, r3, r4, r5, _⟩ := HR.blk k _ hbk
               subst r3
               rw [hl] at r1; injection r1 with r1; subst r1
               have hroom : o + len * size + 0 + vn.length ≤ cc.size := by
                rw [n2, r4]
                have : (len + n) * size ≤ cap * size := Nat.mul_le_mul_right _ hc2
                rw [Nat.add_mul] at this
                omega
               obtain ⟨w', c', t1, t2, t3, t4, t5⟩ := storeCells_run (P := E.P) (b := l.b) (o := o + len * size) vn 0 w cc r2 (fun _ => hroom) (flatL_scal hfl n1)
               unfold appNew at h
               cases hmb : mbx (olds ++ news) with
               | true => rw [hmb] at h; cases h
               | false =>
               rw [hmb] at h
               injection h with h; injection h with ha hb; subst ha; subst hb
               have hst := Stp.name (ι := ι) (s := s) (s0 := ⟨s.h.erase k, s.nx⟩) (w := w) (w' := w') (b := .cells (olds ++ news)) (o := .cells c' tt (0, 0)) (l := ⟨l.b, o, l.n⟩) HR
                (fun q bq hq => by
                 simp only [T.get_erase] at hq
                 by_cases e : q = k
                 ·rw [if_pos e] at hq; cases hq
                 ·rwa [if_neg e] at hq) rfl
                ⟨c', tt, rfl, by rw [t3]; exact r4, fun i a hi => by
                 have hsub := Io.up_sub (l := ⟨l.b, o, l.n⟩) (HR.fresh _ (Nat.le_refl _))
                 have hol := o1.length
                 by_cases hi2 : i < len * size
                 ·rw [List.getElem?_append_left (by omega)] at hi
                  obtain ⟨yv, y1, y2⟩ := olds_cells hE HR holds q1 q4 hbk r5 i a hi
                  refine ⟨yv, ?_, y2.sub hsub⟩
                  show c'[o + i]? = some yv
                  rw [t5 (o + i), if_neg (by omega)]
                  exact y1
                 ·obtain ⟨yv, y1, y2⟩ := (o1.append n1).get i a hi
                  refine ⟨yv, ?_, y2.sub hsub⟩
                  show c'[o + i]? = some yv
                  have hlt := (List.getElem?_eq_some_iff.1 y1).1
                  simp only [List.length_append] at hlt
                  rw [t5 (o + i), if_pos (by omega)]
                  rw [List.getElem?_append_right (by omega)] at y1
                  rw [show o + i - (o + len * size + 0) = i - vo.length by omega]
                  exact y1, fun hm => by rw [hmb] at hm; cases hm⟩
                t2 (by rw [t4.size]; exact Nat.le_refl _) (fun q _ hq => t4.other q hq) (.inr ⟨k, l, _, hbk, hl, rfl, by simp [T.get_erase]⟩) t4.os t4.tape t4.output
               refine ⟨_, w', _, app_fit hE HR ht hd hu1 hu2 hu3 hsz n3 n4 hc2 (w' := w') ?_, hst, ?_⟩
               ·simp only [add_none]; exact t1
               ·exact ⟨_, o, cap, Io.up_self, rfl, fun _ => by simp, (fun e => by cases e), hc2, Nat.le_refl _, q5, q6⟩
              ·obtain ⟨w1, cap1, c1, c2, c3, c4, c5, c6, c7⟩ := app_grow (ty := ty) hE HR ht hd hu1 hu2 hu3 hsz n3 hn4 o4 hinf2 hinf1 hz2 hc2 g3
               obtain ⟨ι', i1, i2⟩ := app_new hE HR (.inr ⟨k, _, hbk, rfl⟩) o1 n1 o2 n2 (Builtin.zeroCells zv.cells (cap1 - (len + n))) (by simp [Builtin.zeroCells, hzs]) c5 c6 elem h c1 c2 c3 c4
               exact ⟨_, _, ι', c7, i1, i2⟩
             ·cases h
            ·cases h
       ·cases h
      ·cases h
     ·cases h
    ·cases h
   ·cases h
  ·cases h
 ·cases h
 ·cases h
end
end Go.Ev
namespace Go.Ev
theorem setObj_run {P : Program} {w : World} {r : Nat} {o : Obj} {ms : Array MapEntry} {c : Nat} (h : w.heap[r]? = some (.map ms c)) : (setObj r o).run P w = .ok () { w with heap := w.heap.setIfInBounds r o } := by
 simp [setObj, Sem.run, h]
theorem relE.mod {ι : Io} {f : AEnt → AEnt} {g : MapEntry → MapEntry} : ∀ {es : List AEnt} {ms : List MapEntry} (i : Nat), relE ι es ms →
  (∀ e m, es[i]? = some e → ms[i]? = some m → rel ι (f e).key (g m).key ∧ rel ι (f e).val (g m).val ∧ (g m).born = (f e).born) → relE ι (modE f es i) (ms.modify i g)
 | [], ms, i, h, _ => by rw [show ms = [] from h]; simp [modE]; rfl
 | e :: es, _, 0, ⟨m, ms, rfl, h1, h2, h3, h4⟩, hf => by
  obtain ⟨g1, g2, g3⟩ := hf e m (by simp) (by simp)
  simp only [modE, List.modify_zero_cons]
  exact ⟨_, _, rfl, g1, g2, g3, h4⟩
 | e :: es, _, i + 1, ⟨m, ms, rfl, h1, h2, h3, h4⟩, hf => by
  simp only [modE, List.modify_succ_cons]
  exact ⟨_, _, rfl, h1, h2, h3, h4.mod i (fun e' m' he hm => hf e' m' (by simpa using he) (by simpa using hm))⟩
theorem relE.del {ι : Io} : ∀ {es : List AEnt} {ms : List MapEntry} (i : Nat), relE ι es ms → relE ι (delE es i) (ms.eraseIdx i)
 | [], ms, i, h => by rw [show ms = [] from h]; simp [delE]; rfl
 | e :: es, _, 0, ⟨m, ms, rfl, h1, h2, h3, h4⟩ => by simpa [delE] using h4
 | e :: es, _, i + 1, ⟨m, ms, rfl, h1, h2, h3, h4⟩ => by
  simp only [delE, List.eraseIdx_cons_succ]
  exact ⟨_, _, rfl, h1, h2, h3, h4.del i⟩
theorem relE.push {ι : Io} {e : AEnt} {m : MapEntry} (h1 : rel ι e.key m.key) (h2 : rel ι e.val m.val) (h3 : m.born = e.born) : ∀ {es : List AEnt} {ms : List MapEntry}, relE ι es ms → relE ι (es ++ [e]) (ms ++ [m])
 | [], ms, h => by rw [show ms = [] from h]; exact ⟨m, [], rfl, h1, h2, h3, rfl⟩
 | a :: es, _, ⟨b, ms, rfl, g1, g2, g3, g4⟩ => ⟨b, _, rfl, g1, g2, g3, relE.push h1 h2 h3 g4⟩
theorem sameKey_run {P : Program} {ι : Io} {a b : AV} (h : sameKey a b = true) {x y : Value} (hx : rel ι a x) (hy : rel ι b y) (w : World) : (Instr.keyThatStays x y).run P w = .ok y w := by
 unfold sameKey at h
 split at h
 ·rename_i u hu
  split at h
  ·rename_i v hv
   rw [toG_rel a u hu x hx, toG_rel b v hv y hy]
   simp only [Instr.keyThatStays, h, if_true, Sem.run_pure]
  ·cases h
 ·cases h
section
variable {E : Env} (hE : EnvOk E) {ι : Io} {s s' : St} {w : World} (HR : HRel ι s w)
include hE HR
theorem afindK_ok {kt : TypeId} {b : Bool} {k : AV} {es : List AEnt} {r : Option (Nat × AEnt)} (h : afindK E kt b k es = .ok r) {y : Value} (hy : rel ι k y) {ms : List MapEntry} (hm : relE ι es ms) :
  (Instr.checkKey b 10000 kt y).run E.P w = .ok () w ∧ ∃ q, (Instr.findKey kt y ms).run E.P w = .ok q w ∧ relF ι r q ∧ ∀ j e, r = some (j, e) → es[j]? = some e := by
 unfold afindK at h
 split at h
 ·rename_i u hu
  split at h
  ·rename_i d hd
   obtain ⟨q, q1, q2, q3⟩ := afind_found (E := E) hy hm h
   exact ⟨okKey_run hu hy w, q, find_run (und_eq hE hd) q1 w, q2, fun j e he => by simpa using (q3 j e he).2⟩
  ·cases h
 ·cases h
/-- a map is another one -/
theorem map_put {k : Nat} {es es' : List AEnt} {c c' : Nat} {l : Loc} {ms' : List MapEntry} (hk : s.h.get k = some (.map es c)) (hl : ι k = some l) (hm : relE ι es' ms') :
  Stp ι s w ι (s.put k (.map es' c')) { w with heap := w.heap.setIfInBounds l.b (.map (List.toArray ms') c') } := by
 have hlt := HR.lt hk hl
 exact Stp.put HR hk hl ⟨ms', rfl, hm⟩ (by simp [hlt]) (by simp) (fun q hq => by simp [Array.getElem?_setIfInBounds, Ne.symm hq]) rfl rfl rfl
theorem amapUpdate_ok {t : TypeId} {m k v : AV} {x y z : Value} (h : amapUpdate E s t m k v = .ok s') (hx : rel ι m x) (hy : rel ι k y) (hz : rel ι v z) :
  ∃ w', (Instr.mapUpdate t x y z).run E.P w = .ok () w' ∧ Stp ι s w ι s' w' := by
 unfold amapUpdate at h
 split at h
 ·rename_i kt el hd
  split at h
  ·rename_i r hr
   obtain ⟨l, ms, q1, q2, rfl, q4, q5, q6⟩ := map_of HR hr hx
   split at h
   ·rename_i p hp
    rw [R.cond_ok] at h
    obtain ⟨g, h⟩ := h
    injection h with h; subst h
    obtain ⟨hck, q, hfk, hrf, hidx⟩ := afindK_ok hE HR hp hy q6
    obtain ⟨val, rfl, hval⟩ := hrf
    obtain ⟨mm, m1, m2, m3, m4⟩ := q6.get _ _ (hidx p.1 p.2 rfl)
    have hks := sameKey_run (P := E.P) g m2 hy w
    refine ⟨_, ?_, map_put hE HR q4 q1 (q6.mod (g := fun e => { e with key := y, val := z }) p.1 fun e mm' he hmm => ?_)⟩
    ·have e1 : ((List.toArray ms)[p.1]?) = some mm := by simpa using m1
     simp only [Instr.mapUpdate, Sem.run_bind, und_run hE hd, Result.andThen_ok, getObj_run q5, hck, hfk, e1, Option.map_some, Option.getD_some, hks, setObj_run q5]
     simp
    ·have := (q6.get _ _ he)
     obtain ⟨m5, m6, m7, m8, m9⟩ := this
     rw [hmm] at m6; injection m6 with m6; subst m6
     exact ⟨hy, hz, m9⟩
   ·rename_i hp
    injection h with h; subst h
    obtain ⟨hck, q, hfk, hrf, hidx⟩ := afindK_ok hE HR hp hy q6
    have hq : q = none := hrf
    subst hq
    refine ⟨_, ?_, map_put hE HR q4 q1 (relE.push (e := ⟨k, v, r.2.2⟩) (m := { key := y, val := z, born := r.2.2 }) hy hz rfl q6)⟩
    simp only [Instr.mapUpdate, Sem.run_bind, und_run hE hd, Result.andThen_ok, getObj_run q5, hck, hfk, setObj_run q5]
    simp
   ·cases h
  ·cases h
 ·cases h
 ·cases h
theorem amapEntry_ok {t : TypeId} {m k v : AV} {x y : Value} (h : amapEntry E s t m k = .ok (v, s')) (hx : rel ι m x) (hy : rel ι k y) :
  ∃ z w', (Instr.mapEntry t x y).run E.P w = .ok z w' ∧ Stp ι s w ι s' w' ∧ rel ι v z := by
 unfold amapEntry at h
 split at h
 ·rename_i kt el hd
  split at h
  ·rename_i r hr
   obtain ⟨l, ms, q1, q2, rfl, q4, q5, q6⟩ := map_of HR hr hx
   split at h
   ·rename_i p hp
    rw [R.cond_ok] at h
    obtain ⟨g, h⟩ := h
    injection h with h; injection h with ha hb; subst ha; subst hb
    obtain ⟨hck, q, hfk, hrf, hidx⟩ := afindK_ok hE HR hp hy q6
    obtain ⟨val, rfl, hval⟩ := hrf
    obtain ⟨mm, m1, m2, m3, m4⟩ := q6.get _ _ (hidx p.1 p.2 rfl)
    have hks := sameKey_run (P := E.P) g m2 hy w
    refine ⟨.tuple #[val, .int .i64 mm.born], _, ?_, map_put hE HR q4 q1 (q6.mod (g := fun e => { e with key := y }) p.1 fun e mm' he hmm => ?_), ⟨[val, .int .i64 mm.born], rfl, val, _, rfl, hval, _, _, rfl, ⟨by rw [m4]; rfl, rfl⟩, rfl⟩⟩
    ·have e1 : ((List.toArray ms)[p.1]?) = some mm := by simpa using m1
     simp only [Instr.mapEntry, Sem.run_bind, und_run hE hd, Result.andThen_ok, getObj_run q5, hck, hfk, e1, Option.map_some, Option.getD_some, hks, setObj_run q5]
     simp [goInt]
    ·have := (q6.get _ _ he)
     obtain ⟨m5, m6, m7, m8, m9⟩ := this
     rw [hmm] at m6; injection m6 with m6; subst m6
     exact ⟨hy, m8, m9⟩
   ·rename_i hp
    split at h
    ·rename_i z hz
     injection h with h; injection h with ha hb; subst ha; subst hb
     obtain ⟨zv, hz1, hz2⟩ := zer_run hE hz
     obtain ⟨hck, q, hfk, hrf, hidx⟩ := afindK_ok hE HR hp hy q6
     have hq : q = none := hrf
     subst hq
     refine ⟨.tuple #[zv, .int .i64 r.2.2], _, ?_, map_put hE HR q4 q1 (relE.push (e := ⟨k, z, r.2.2⟩) (m := { key := y, val := zv, born := r.2.2 }) hy (hz1 ι) rfl q6), ⟨[zv, .int .i64 r.2.2], rfl, zv, _, rfl, hz1 ι, _, _, rfl, ⟨rfl, rfl⟩, rfl⟩⟩
     simp only [Instr.mapEntry, Sem.run_bind, und_run hE hd, Result.andThen_ok, getObj_run q5, hck, hfk, hz2 w, setObj_run q5]
     simp [goInt]
    ·cases h
   ·cases h
  ·cases h
 ·cases h
 ·cases h
theorem aentryStore_ok {t : TypeId} {m st v : AV} {x y z : Value} (h : aentryStore s m st v = .ok s') (hx : rel ι m x) (hy : rel ι st y) (hz : rel ι v z) :
  ∃ w', (Instr.entryStore t x y z).run E.P w = .ok () w' ∧ Stp ι s w ι s' w' := by
 unfold aentryStore at h
 split at h
 ·rename_i r hr
  obtain ⟨l, ms, q1, q2, rfl, q4, q5, q6⟩ := map_of HR hr hx
  split at h
  ·rename_i b hb
   have hyk : ∃ kk, y = .int kk (b : Int) := by
    unfold asI at hb
    split at hb
    ·rename_i kk m'
     injection hb with hb; subst hb
     exact ⟨kk, hy.1⟩
    ·cases hb
   obtain ⟨kk, rfl⟩ := hyk
   split at h
   ·rename_i p hp
    injection h with h; subst h
    obtain ⟨f1, f2, f3, f4⟩ := findBorn_ok hp
    simp only [Nat.sub_zero] at f2 f4
    obtain ⟨mm, m1, m2, m3, m4⟩ := q6.get _ _ f2
    have hfi : (List.toArray ms).findIdx? (fun e => (e.born : Int) == (b : Int)) = some p.1 := by
     rw [List.findIdx?_toArray, List.findIdx?_eq_some_iff_getElem]
     obtain ⟨g1, g2⟩ := List.getElem?_eq_some_iff.1 m1
     refine ⟨g1, by rw [g2, m4, f3]; simp, fun j hj => ?_⟩
     obtain ⟨e', e1, _, _, e4⟩ := q6.get' j _ (List.getElem?_eq_getElem (by omega))
     have := f4 j hj e' e1
     rw [e4]
     simp
     omega
    refine ⟨_, ?_, map_put hE HR q4 q1 (q6.mod (g := fun e => { e with val := z }) p.1 fun e mm' he hmm => ?_)⟩
    ·simp only [Instr.entryStore, asInt, asIntOf, Sem.run_bind, Sem.run_pure, Result.andThen_ok, getObj_run q5, hfi, setObj_run q5]
     simp
    ·have := (q6.get _ _ he)
     obtain ⟨m5, m6, m7, m8, m9⟩ := this
     rw [hmm] at m6; injection m6 with m6; subst m6
     exact ⟨m7, hz, m9⟩
   ·cases h
  ·cases h
 ·cases h
end
end Go.Ev
namespace Go.Ev
theorem modify_push {α : Type} (xs : Array α) (a : α) (f : α → α) : (xs.push a).modify xs.size f = xs.push (f a) := by
 apply Array.ext_getElem?
 intro i
 rw [Array.getElem?_modify]
 by_cases h : xs.size = i
 ·subst h; simp
 ·simp [h, Array.getElem?_push, Ne.symm h]
theorem relE.filter {ι : Io} (p : Nat → Bool) : ∀ {es : List AEnt} {ms : List MapEntry}, relE ι es ms → relE ι (es.filter fun e => p e.born) (ms.filter fun m => p m.born)
 | [], ms, h => by rw [show ms = [] from h]; rfl
 | e :: es, _, ⟨m, ms, rfl, h1, h2, h3, h4⟩ => by
  simp only [List.filter_cons, h3]
  cases hp : p e.born with
  | true =>
   simp only [if_true]
   exact ⟨m, _, rfl, h1, h2, h3, relE.filter p h4⟩
  | false =>
   simp only [Bool.false_eq_true, if_false]
   exact relE.filter p h4
theorem relE.append {ι : Io} : ∀ {es fs : List AEnt} {ms ns : List MapEntry}, relE ι es ms → relE ι fs ns → relE ι (es ++ fs) (ms ++ ns)
 | [], _, ms, _, h, h' => by rw [show ms = [] from h]; exact h'
 | e :: es, _, _, _, ⟨m, ms, rfl, h1, h2, h3, h4⟩, h' => ⟨m, _, rfl, h1, h2, h3, h4.append h'⟩
theorem choose_next {P : Program} (w : World) (n : Nat) (hn : 0 < n) : ∃ i w1, i < n ∧ (choose (.mapNext n)).run P w = .ok i w1 ∧ w1.heap = w.heap ∧ w1.os = w.os ∧ w1.tape = w.tape ∧ w1.output = w.output := by
 by_cases h : n ≤ 1
 ·exact ⟨0, w, hn, by simp [choose, Sem.run, Question.forced, h], rfl, rfl, rfl, rfl⟩
 ·refine ⟨w.tape w.drawn (.mapNext n) % n, { w with drawn := w.drawn + 1 }, Nat.mod_lt _ hn, ?_, rfl, rfl, rfl, rfl⟩
  simp [choose, Sem.run, Question.forced, Question.cut, h]
section
variable {E : Env} (hE : EnvOk E) {ι : Io} {s s' : St} {w : World} (HR : HRel ι s w)
include hE HR
theorem adelete_ok {ts : Array TypeId} {ty t : TypeId} {m k : AV} {x y : Value} (ht : ts[0]? = some t) (h : adelete E s t m k = .ok s') (hx : rel ι m x) (hy : rel ι k y) :
  ∃ w', (Builtin.delete_ ts ty #[x, y]).run E.P w = .ok (.tuple #[]) w' ∧ Stp ι s w ι s' w' := by
 unfold adelete at h
 split at h
 ·rename_i kt el hd
  split at h
  ·rename_i r hr
   obtain ⟨l, ms, q1, q2, rfl, q4, q5, q6⟩ := map_of HR hr hx
   have e0 : (#[Value.map (some l.b), y] : Array Value)[0]? = some (.map (some l.b)) := by simp
   have e1 : (#[Value.map (some l.b), y] : Array Value)[1]? = some y := by simp
   have hemp : (List.toArray ms).isEmpty = r.2.1.isEmpty := by
    have := q6.length
    cases ms <;> cases hr2 : r.2.1 <;> simp [hr2] at this ⊢
   split at h
   ·rename_i p hp
    injection h with h; subst h
    obtain ⟨hck, q, hfk, hrf, hidx⟩ := afindK_ok hE HR hp hy q6
    obtain ⟨val, rfl, hval⟩ := hrf
    rw [← hemp] at hck
    obtain ⟨mm, m1, _⟩ := q6.get _ _ (hidx p.1 p.2 rfl)
    have hlt := (List.getElem?_eq_some_iff.1 m1).1
    refine ⟨_, ?_, map_put hE HR q4 q1 (q6.del p.1)⟩
    simp only [Builtin.delete_, ht, e0, e1, Sem.run_bind, und_run hE hd, Result.andThen_ok, getObj_run q5, hck, hfk, setObj_run q5, Sem.run_pure]
    congr 2
    congr 1
    congr 1
    apply Array.ext'
    simp [Array.eraseIdxIfInBounds, hlt]
   ·rename_i hp
    injection h with h; subst h
    obtain ⟨hck, q, hfk, hrf, hidx⟩ := afindK_ok hE HR hp hy q6
    have hq : q = none := hrf
    subst hq
    rw [← hemp] at hck
    refine ⟨_, ?_, map_put hE HR q4 q1 q6⟩
    simp only [Builtin.delete_, ht, e0, e1, Sem.run_bind, und_run hE hd, Result.andThen_ok, getObj_run q5, hck, hfk, setObj_run q5, Sem.run_pure]
   ·cases h
  ·cases h
 ·cases h
 ·cases h
theorem aclear_ok {ts : Array TypeId} {ty t : TypeId} {m : AV} {x : Value} (ht : ts[0]? = some t) (h : aclear E s t m = .ok s') (hx : rel ι m x) :
  ∃ w', (Builtin.clear_ ts ty #[x]).run E.P w = .ok (.tuple #[]) w' ∧ Stp ι s w ι s' w' := by
 unfold aclear at h
 split at h
 ·rename_i elem hd
  split at h
  ·rename_i k off len ex c esz
   split at h
   ·rename_i z hz
    split at h
    ·rename_i size hsz
     rw [R.cond_ok, Bool.and_eq_true, Bool.and_eq_true, beq_eq, beq_eq, blt_eq] at h
     obtain ⟨⟨g1, g2, g3⟩, h⟩ := h
     have g1 := of_decide_eq_true g1
     have g2 := of_decide_eq_true g2
     have g3 := of_decide_eq_true g3
     subst g2
     obtain ⟨zv, hz1, hz2⟩ := zer_run hE hz
     obtain ⟨l, o, cap, hl, rfl, q1, q2, q3, q4, q5, q6⟩ := hx
     have ho := q1 (by omega)
     subst ho
     have hzs : zv.cells.size = size := by rw [← g1]; simpa using (cells_rel (hz1 ι)).length
     obtain ⟨w', r1, r2⟩ := wcells_run (E := E) HR h hl (rep_rel (hz1 ι) len size g1)
     refine ⟨w', ?_, r2⟩
     have e0 : (#[Value.slice (some ⟨l.b, l.s + off, none⟩) len cap] : Array Value)[0]? = some (.slice (some ⟨l.b, l.s + off, none⟩) len cap) := by simp
     have hn0 : len ≠ 0 := by omega
     have ez : Builtin.zeroCells zv.cells len = (Array.range (len * size)).map (zv.cells[· % zv.cells.size]!) := by rw [Builtin.zeroCells, hzs]
     cases len with
     | zero => exact absurd rfl hn0
     | succ len =>
      simp only [Builtin.clear_, ht, e0, Sem.run_bind, und_run hE hd, Result.andThen_ok, hz2 w, ez, r1, Sem.run_pure]
    ·cases h
   ·cases h
  ·cases h
 ·cases h
 ·cases h
/-- the first elements of a slice, read -/
theorem firstm_ok {y : AV} {news : List AV} {n m : Nat} (hn : lenA y = .ok n) (hm : m ≤ n) (h : sliceCells s y = .ok news) {v : Value} (hv : rel ι y v) (size : Nat) (he : eszOk size y = true) :
  ∃ vs, relL ι (news.take (m * size)) vs ∧ (Builtin.lenOf v).run E.P w = .ok n w ∧ (Builtin.firstCells size m v).run E.P w = .ok (List.toArray vs) w := by
 unfold lenA at hn
 split at hn
 ·injection hn with hn; subst hn
  simp [sliceCells] at h; subst h
  obtain ⟨rfl, _⟩ := hv
  exact ⟨[], by simp; rfl, rfl, rfl⟩
 ·rename_i k off len ex c esz
  injection hn with hn; subst hn
  simp only [eszOk, beq_eq] at he
  have he := of_decide_eq_true he
  subst he
  obtain ⟨l, o, cap, hl, rfl, q1, q2, q3, q4, q5, q6⟩ := hv
  have key : ∃ vs, relL ι news vs ∧ vs.length = len * size ∧ ∀ (j : Nat) (x : Value), vs[j]? = some x → w.cell? ⟨l.b, o + j, none⟩ = some x := by
   by_cases h0 : len = 0
   ·subst h0
    have : news = [] := by simp [sliceCells] at h; exact h
    subst this
    exact ⟨[], rfl, by simp, fun j x hx => by simp at hx⟩
   ·have hb : Nat.beq len 0 = false := by rw [beq_eq]; simp [h0]
    simp only [sliceCells, hb, cond_false] at h
    split at h
    ·rename_i cs hcs
     obtain ⟨l', c', ty, f, r1, r2, r3, r4⟩ := cells_of HR hcs
     rw [hl] at r1; injection r1 with r1; subst r1
     obtain ⟨vs, g1, g2, g3⟩ := run_of r4 h
     have ho := q1 (by omega)
     subst ho
     exact ⟨vs, g1, g2, fun j x hx => by rw [cell_of r2]; exact g3 j x hx⟩
    ·cases h
  obtain ⟨vs, g1, g2, g3⟩ := key
  have hle : m * size ≤ len * size := Nat.mul_le_mul_right _ hm
  refine ⟨vs.take (m * size), ?_, rfl, loadCells_run (P := E.P) (w := w) (b := l.b) (o := o) (by rw [List.length_take, g2]; exact Nat.min_eq_left hle) fun j x hx => g3 j x ?_⟩
  ·refine relL.of (by simp [g1.length]) fun i a ha => ?_
   rw [List.getElem?_take] at ha ⊢
   split at ha
   ·rename_i hi
    obtain ⟨yv, y1, y2⟩ := g1.get i a ha
    exact ⟨yv, by rw [if_pos hi]; exact y1, y2⟩
   ·cases ha
  ·rw [List.getElem?_take] at hx
   split at hx
   ·exact hx
   ·cases hx
 ·cases hn
theorem acopy_ok {ts : Array TypeId} {ty : TypeId} {p q : AV} {x y : Value} {v : AV} (h : acopy E ts s p q = .ok (v, s')) (hp : rel ι p x) (hq : rel ι q y) :
  ∃ z w', (Builtin.copy_ ts ty #[x, y]).run E.P w = .ok z w' ∧ Stp ι s w ι s' w' ∧ rel ι v z := by
 unfold acopy at h
 split at h
 ·rename_i elem hd0
  obtain ⟨t, ht, hd⟩ := undA_sl hE HR hd0
  split at h
  ·rename_i size hsz
   split at h
   ·rename_i n hn
    split at h
    ·rename_i k off dl ex c esz
     rw [R.cond_ok, Bool.and_eq_true, Bool.and_eq_true, beq_eq, blt_eq] at h
     obtain ⟨⟨g1, g2, g3⟩, h⟩ := h
     have g1 := of_decide_eq_true g1
     have g3 := of_decide_eq_true g3
     subst g1
     split at h
     ·rename_i src hsrc
      split at h
      ·rename_i s1 hs1
       injection h with h; injection h with ha hb; subst ha; subst hb
       obtain ⟨l, o, cap, hl, rfl, q1, q2, q3, q4, q5, q6⟩ := hp
       have hmin1 : Nat.min n dl ≤ n := Nat.min_le_left _ _
       have hmin2 : Nat.min n dl ≤ dl := Nat.min_le_right _ _
       have ho := q1 (by omega)
       subst ho
       obtain ⟨vs, v1, v2, v3⟩ := firstm_ok hE HR hn hmin1 hsrc hq size g2
       obtain ⟨w', r1, r2⟩ := wcells_run (E := E) HR hs1 hl v1
       refine ⟨_, w', ?_, r2, ⟨rfl, rfl⟩⟩
       have e0 : (#[Value.slice (some ⟨l.b, l.s + off, none⟩) dl cap, y] : Array Value)[0]? = some (.slice (some ⟨l.b, l.s + off, none⟩) dl cap) := by simp
       have e1 : (#[Value.slice (some ⟨l.b, l.s + off, none⟩) dl cap, y] : Array Value)[1]? = some y := by simp
       simp only [Builtin.copy_, ht, e0, e1, Sem.run_bind, und_run hE hd, Result.andThen_ok, v2, tsz_run hE hsz, v3, r1, Sem.run_pure]
       rfl
      ·cases h
     ·cases h
    ·cases h
   ·cases h
  ·cases h
 ·cases h
 ·cases h
theorem arange_ok {t : TypeId} {p : AV} {x : Value} {v : AV} (h : arange E s t p = .ok (v, s')) (hp : rel ι p x) :
  ∃ z w' ι', (Instr.range t x).run E.P w = .ok z w' ∧ Stp ι s w ι' s' w' ∧ rel ι' v z := by
 have hnew : ∀ (ob : Obj), (newObj ob).run E.P w = .ok w.heap.size { w with heap := w.heap.push ob } := fun ob => by simp [newObj, Sem.run]
 unfold arange at h
 split at h
 ·rename_i kt el hd
  split at h
  ·injection h with h; injection h with ha hb; subst ha; subst hb
   obtain ⟨rfl, _⟩ := hp
   refine ⟨_, _, _, ?_, Stp.new (n := 0) HR ⟨rfl, none, rfl, rfl⟩, ⟨_, Io.up_self, rfl⟩⟩
   simp only [Instr.range, Sem.run_bind, und_run hE hd, Result.andThen_ok, Sem.run_pure, hnew]
   rfl
  ·rename_i k
   split at h
   ·rename_i r hr
    injection h with h; injection h with ha hb; subst ha; subst hb
    obtain ⟨l, ms, q1, q2, rfl, q4, q5, q6⟩ := map_of HR hr hp
    injection q2 with q2
    rw [← q2] at q1
    refine ⟨_, _, _, ?_, Stp.new (n := 0) HR ⟨rfl, some l.b, rfl, l, q1, rfl⟩, ⟨_, Io.up_self, rfl⟩⟩
    simp only [Instr.range, Sem.run_bind, und_run hE hd, Result.andThen_ok, Sem.run_pure, getObj_run q5, hnew]
    rfl
   ·cases h
  ·cases h
 ·rename_i hd
  split at h
  ·injection h with h; injection h with ha hb; subst ha; subst hb
   obtain ⟨rfl, _⟩ := hp
   refine ⟨_, _, _, ?_, Stp.new (n := 0) HR ⟨rfl, rfl⟩, ⟨_, Io.up_self, rfl⟩⟩
   simp only [Instr.range, Sem.run_bind, und_run hE hd, Result.andThen_ok, Sem.run_pure, hnew]
  ·cases h
 ·cases h
 ·cases h
theorem anextS_ok {p : AV} {x : Value} {l : List (AV × St)} {ty : TypeId} (h : anextS s p = .ok l) (hp : rel ι p x) :
  ∃ z w' r, r ∈ l ∧ (Instr.next x true ty).run E.P w = .ok z w' ∧ Stp ι s w ι r.2 w' ∧ rel ι r.1 z := by
 unfold anextS at h
 split at h
 ·rename_i r
  split at h
  ·rename_i b pos hk
   obtain ⟨lc, ob, q1, q2, q3, q4⟩ := HR.blk _ _ hk
   subst q4
   obtain ⟨lp, hlp, rfl⟩ := hp
   rw [q1] at hlp; injection hlp with hlp; subst hlp
   have hg : (getObj lc.b).run E.P w = .ok (.stringIter b pos) w := by simp [getObj, Sem.run, q2]
   have hset : ∀ o, (setObj lc.b o).run E.P w = .ok () { w with heap := w.heap.setIfInBounds lc.b o } := fun o => by simp [setObj, Sem.run, q2]
   have hlt := HR.lt hk q1
   rw [blt_eq] at h
   by_cases hb : pos < b.size
   ·simp only [hb, decide_true, cond_true] at h
    injection h with h; subst h
    refine ⟨_, _, _, List.mem_singleton.2 rfl, ?_, Stp.put (o' := .stringIter b (pos + (Utf8.decode b pos).2)) (w' := { w with heap := w.heap.setIfInBounds lc.b (.stringIter b (pos + (Utf8.decode b pos).2)) }) HR hk q1 ⟨q3, rfl⟩ (by simp [hlt]) (by simp) (fun q hq => by simp [Array.getElem?_setIfInBounds, Ne.symm hq]) rfl rfl rfl,
     ⟨[.bool true, .int .i64 pos, .int .i32 (Utf8.decode b pos).1], rfl, _, _, rfl, ⟨rfl, rfl⟩, _, _, rfl, ⟨rfl, rfl⟩, _, _, rfl, ⟨rfl, rfl⟩, rfl⟩⟩
    simp only [Instr.next, q3, Nat.add_zero, Sem.run_bind, hg, Result.andThen_ok, hb, if_true, hset]
    rfl
   ·simp only [hb, decide_false, cond_false] at h
    injection h with h; subst h
    refine ⟨_, w, _, List.mem_singleton.2 rfl, ?_, Stp.refl HR, ⟨[.bool false], rfl, _, _, rfl, ⟨rfl, rfl⟩, rfl⟩⟩
    simp only [Instr.next, q3, Nat.add_zero, Sem.run_bind, hg, Result.andThen_ok, hb, if_false]
    rfl
  ·cases h
 ·cases h
theorem aconvert_ok {src dst : TypeId} {b : ByteArray} {e : TypeId} (h1 : und E src = .ok .string) (h2 : und E dst = .ok (.slice e)) (h3 : isU8 (und E e) = true) (hb : b.size ≤ 100000) :
  ∃ z w' ι', (convert src dst (.string b)).run E.P w = .ok z w' ∧ Stp ι s w ι' (s.new (.bytes (toB b))) w' ∧ rel ι' (.slice s.nx 0 b.size false b.size 1) z := by
 have h3' : und E e = .ok (.int .u8) := by
  unfold isU8 at h3
  split at h3
  ·assumption
  ·cases h3
 obtain ⟨tp, htp⟩ : ∃ tp, tp = w.tape w.drawn (.appendCap b.size 0 e) := ⟨_, rfl⟩
 have hch : (choose (.appendCap b.size 0 e)).run E.P w = .ok (b.size + tp % (2 ^ 63 - b.size)) { w with drawn := w.drawn + 1 } := by
  simp only [choose, Sem.run, Question.forced, Bool.false_eq_true, if_false, Question.cut, htp]
 have hmod : tp % (2 ^ 63 - b.size) < 2 ^ 63 - b.size := Nat.mod_lt _ (by omega)
 obtain ⟨cap, hcap⟩ : ∃ cap, cap = b.size + tp % (2 ^ 63 - b.size) := ⟨_, rfl⟩
 rw [← hcap] at hch
 obtain ⟨c, hc⟩ : ∃ c : Array Value, c = b.data.map (fun x => .int .u8 (x.toNat : Int)) ++ Array.replicate (cap - b.size) (.int .u8 0) := ⟨_, rfl⟩
 have hdat : b.data.size = b.size := rfl
 have hcs : c.size = cap := by rw [hc]; simp [hdat]; omega
 have hmk : ∀ w1 : World, (markStringish ⟨w1.heap.size, 0, none⟩).run E.P { w1 with heap := w1.heap.push (.cells c e (0, 0)) } = .ok () { w1 with heap := w1.heap.push (.cells c e (c.size, c.size + 1)) } := by
  intro w1
  have hget : (w1.heap.push (.cells c e (0, 0)))[w1.heap.size]? = some (.cells c e (0, 0)) := by simp
  have hsh : (shape w1.heap.size).run E.P { w1 with heap := w1.heap.push (.cells c e (0, 0)) } = .ok (some (e, c.size)) { w1 with heap := w1.heap.push (.cells c e (0, 0)) } := by
   simp only [shape, Sem.run, World.shape?, hget]
  simp only [markStringish, Sem.run_bind, hsh, Result.andThen_ok]
  simp only [freeze, Sem.run, World.freeze]
  rw [modify_push]
  simp
 refine ⟨.slice (some ⟨w.heap.size, 0, none⟩) b.size cap, { w with drawn := w.drawn + 1, heap := w.heap.push (.cells c e (c.size, c.size + 1)) }, ι.up s.nx ⟨w.heap.size, 0, cap⟩, ?_, ?_, ?_⟩
 ·simp only [convert, Sem.run_bind, und_run hE h1, und_run hE h2, und_run hE h3', Result.andThen_ok, Conv.stringToBytes, hch, ← hc, newRow_run, hmk { w with drawn := w.drawn + 1 }, Sem.run_pure]
 ·refine Stp.name (s0 := s) (o := .cells c e (c.size, c.size + 1)) HR (fun _ _ h => h) rfl ⟨c, e, _, rfl, hcs, fun i a hi => ?_⟩ (by simp) (by simp) (fun q hq _ => by simp [Array.getElem?_push, Nat.ne_of_lt hq]) (.inl (Nat.le_refl _)) rfl rfl rfl
  simp only [toB, List.getElem?_map] at hi
  cases hx : b.data.toList[i]? with
  | none => rw [hx] at hi; cases hi
  | some x =>
   rw [hx] at hi
   injection hi with hi; subst hi
   have hlt : i < b.data.size := by simpa using (List.getElem?_eq_some_iff.1 hx).1
   refine ⟨.int .u8 (x.toNat : Int), ?_, ⟨rfl, rfl⟩⟩
   have hx' : b.data[i]? = some x := by simpa using hx
   rw [hc, Nat.zero_add, Array.getElem?_append_left (by simpa using hlt)]
   simp [hx']
 ·exact ⟨_, 0, cap, Io.up_self, rfl, fun _ => rfl, (fun e => by cases e), by omega, Nat.le_refl _, by show 0 + cap * 1 ≤ cap; omega, by omega⟩
theorem anext_ok {p : AV} {x : Value} {l : List (AV × St)} {ty : TypeId} (h : anext s p = .ok l) (hp : rel ι p x) :
  ∃ z w' r, r ∈ l ∧ (Instr.next x false ty).run E.P w = .ok z w' ∧ Stp ι s w ι r.2 w' ∧ rel ι r.1 z := by
 unfold anext at h
 split at h
 ·rename_i r
  split at h
  ·rename_i since seen last hk
   injection h with h; subst h
   obtain ⟨lc, ob, q1, q2, q3, m', q4, q5⟩ := HR.blk _ _ hk
   have q5 : m' = none := q5
   subst q4 q5
   obtain ⟨lp, hlp, rfl⟩ := hp
   rw [q1] at hlp; injection hlp with hlp; subst hlp
   have hg : (getObj lc.b).run E.P w = .ok (.mapIter none since (List.toArray seen.reverse) last) w := by simp [getObj, Sem.run, q2]
   refine ⟨_, w, _, List.mem_singleton.2 rfl, ?_, Stp.refl HR, ⟨[.bool false], rfl, _, _, rfl, ⟨rfl, rfl⟩, rfl⟩⟩
   simp only [Instr.next, q3, Nat.add_zero, Sem.run_bind, hg, Result.andThen_ok]
   rfl
  ·rename_i m since seen last hk
   split at h
   ·rename_i es clock hm
    obtain ⟨lc, ob, q1, q2, q3, m', q4, lm, q6, q5⟩ := HR.blk _ _ hk
    subst q4 q5
    obtain ⟨lp, hlp, rfl⟩ := hp
    rw [q1] at hlp; injection hlp with hlp; subst hlp
    obtain ⟨lm', om, r1, r2, ms, r3, r4⟩ := HR.blk _ _ hm
    subst r3
    rw [q6] at r1; injection r1 with r1; subst r1
    have hg : (getObj lc.b).run E.P w = .ok (.mapIter (some lm.b) since (List.toArray seen.reverse) last) w := by simp [getObj, Sem.run, q2]
    have hset : ∀ (w1 : World) o, w1.heap = w.heap → (setObj lc.b o).run E.P w1 = .ok () { w1 with heap := w1.heap.setIfInBounds lc.b o } := fun w1 o hw1 => by simp [setObj, Sem.run, hw1, q2]
    have hlt := HR.lt hk q1
    cases hcd : (!seen.isEmpty && !es.isEmpty && es.all (fun e => Nat.ble last e.born)) with
    | true => rw [hcd] at h; cases h
    | false =>
     rw [hcd] at h
     simp only [cond_false] at h
     injection h with h
     have hcond : (!(List.toArray seen.reverse).isEmpty && !(List.toArray ms).isEmpty && (List.toArray ms).all (fun e => decide (e.born ≥ last))) = false := by
      have hl := r4.length
      have h1 : (List.toArray seen.reverse).isEmpty = seen.isEmpty := by cases seen <;> simp
      have h2 : (List.toArray ms).isEmpty = es.isEmpty := by cases ms <;> cases es <;> simp at hl ⊢
      have h3 : ∀ {es : List AEnt} {ms : List MapEntry}, relE ι es ms → ms.all (fun e => decide (e.born ≥ last)) = es.all (fun e => Nat.ble last e.born) := by
       intro es
       induction es with
       | nil => intro ms h; rw [show ms = [] from h]; rfl
       | cons e es ih =>
        intro ms h
        obtain ⟨m, ms', rfl, _, _, h3, h4⟩ := h
        simp only [List.all_cons, ih h4, h3, ble_eq, ge_iff_le]
      rw [← hcd, h1, h2, List.all_toArray, h3 r4]
     have hleft : relE ι (es.filter fun e => !seen.elem e.born) (ms.filter fun e => !(List.toArray seen.reverse).contains e.born) := by
      have := relE.filter (fun b => !seen.elem b) r4
      have e1 : (fun m : MapEntry => !seen.elem m.born) = fun e => !(List.toArray seen.reverse).contains e.born := by
       funext m
       simp [List.elem_eq_contains]
      rw [← e1]; exact this
     have hold := relE.filter (fun b => Nat.blt b since) hleft
     have hnew := relE.filter (fun b => !Nat.blt b since) hleft
     have e2 : (fun m : MapEntry => Nat.blt m.born since) = fun m => decide (m.born < since) := by funext m; rw [blt_eq]
     have e3 : (fun m : MapEntry => !Nat.blt m.born since) = fun m => decide (m.born ≥ since) := by
      funext m
      rw [blt_eq]
      by_cases hh : m.born < since
      ·have : ¬ m.born ≥ since := by omega
       simp [hh]
      ·have : m.born ≥ since := by omega
       simp [hh, this]
     rw [e2] at hold
     rw [e3] at hnew
     simp only [Instr.next, q3, Nat.add_zero, Sem.run_bind, hg, Result.andThen_ok, getObj_run r2, hcond, Bool.false_eq_true, if_false, List.filter_toArray]
     generalize (List.filter (fun e => !(List.toArray seen.reverse).contains e.born) ms) = leftM at *
     generalize (List.filter (fun m : MapEntry => decide (m.born < since)) leftM) = oldM at *
     generalize (List.filter (fun m : MapEntry => decide (m.born ≥ since)) leftM) = newM at *
     generalize (es.filter fun e => !seen.elem e.born) = leftA at *
     generalize (leftA.filter fun e => Nat.blt e.born since) = oldA at *
     generalize (leftA.filter fun e => !Nat.blt e.born since) = newA at *
     have hall := hold.append hnew
     have hempty : oldM.toArray.isEmpty = oldA.isEmpty := by
      have := hold.length
      cases oldM <;> cases oldA <;> simp at this ⊢
     obtain ⟨cands, hc⟩ : ∃ c, c = ((if oldM.toArray.isEmpty = true then #[none] else #[]) ++ Array.map some (oldM.toArray ++ newM.toArray) : Array (Option MapEntry)) := ⟨_, rfl⟩
     rw [← hc]
     have hpos : 0 < cands.size := by
      rw [hc]
      cases oldM with
      | nil => simp
      | cons e r => simp
     obtain ⟨i, w1, i1, i2, i3, i4, i5, i6⟩ := choose_next (P := E.P) w cands.size hpos
     have hdr := Stp.drew HR i3 i4 i5 i6
     obtain ⟨ce, hce⟩ : ∃ ce, cands[i]? = some ce := ⟨_, Array.getElem?_eq_getElem i1⟩
     simp only [i2, Result.andThen_ok, hce]
     cases ce with
     | none =>
      have hoe : oldA.isEmpty = true := by
       rw [← hempty]
       cases he : oldM.toArray.isEmpty with
       | true => rfl
       | false =>
        exfalso
        have hmem : (none : Option MapEntry) ∈ cands.toList := List.mem_of_getElem? (show cands.toList[i]? = some none by simpa using hce)
        rw [hc] at hmem
        simp only [he, Bool.false_eq_true, if_false] at hmem
        simp at hmem
      refine ⟨_, w1, (.tuple [.g (.bool false)], s), ?_, rfl, hdr, ⟨[.bool false], rfl, _, _, rfl, ⟨rfl, rfl⟩, rfl⟩⟩
      rw [← h, hoe]; simp
     | some me =>
      have hmem : me ∈ oldM ++ newM := by
       have : some me ∈ cands.toList := by
        have := List.mem_of_getElem? (show cands.toList[i]? = some (some me) by simpa using hce)
        exact this
       rw [hc] at this
       cases he : oldM.toArray.isEmpty <;> simp [he] at this <;> simpa using this
      obtain ⟨j, hj⟩ := List.getElem?_of_mem hmem
      obtain ⟨ae, a1, a2, a3, a4⟩ := hall.get' j me hj
      have hst := Stp.put (o' := .mapIter (some lm.b) since ((List.toArray seen.reverse).push me.born) clock) (w' := { w1 with heap := w1.heap.setIfInBounds lc.b (.mapIter (some lm.b) since ((List.toArray seen.reverse).push me.born) clock) }) (b' := .iter (some m) since (ae.born :: seen) clock) hdr.h hk q1
       ⟨q3, some lm.b, by rw [a4]; simp, lm, q6, rfl⟩ (by simp [i3, hlt]) (by simp) (fun q hq => by simp [Array.getElem?_setIfInBounds, Ne.symm hq]) rfl rfl rfl
      refine ⟨.tuple #[.bool true, me.key, me.val], _, (.tuple [.g (.bool true), ae.key, ae.val], s.put _ (.iter (some m) since (ae.born :: seen) clock)), ?_, ?_, hdr.trans hst, ⟨[.bool true, me.key, me.val], rfl, _, _, rfl, ⟨rfl, rfl⟩, _, _, rfl, a2, _, _, rfl, a3, rfl⟩⟩
      ·rw [← h]
       refine List.mem_append.2 (.inr (List.mem_map.2 ⟨ae, List.mem_of_getElem? a1, rfl⟩))
      ·simp only [Sem.run_bind, hset w1 _ i3, Result.andThen_ok, Sem.run_pure]
   ·cases h
  ·cases h
 ·cases h
end
end Go.Ev
namespace Go.Ev
/-- what a call leads to -/
def Ret (ι : Io) (s : St) (w : World) (l : List (AV × St)) (x : Value) (w' : World) : Prop := ∃ p ∈ l, ∃ ι', Stp ι s w ι' p.2 w' ∧ rel ι' p.1 x
def CallOk (E : Env) (f : FuncId) (vs : List Value) (ι : Io) (s : St) (w : World) (l : List (AV × St)) : Prop :=
 (∃ x w', (callFunc f (List.toArray vs)).run E.P w = .ok (.value x) w' ∧ Ret ι s w l x w') ∨
 ((callFunc f (List.toArray vs)).run E.P w = .ok (.enter f (List.toArray vs)) w ∧ Calls E.P f (List.toArray vs) w fun e w' => ∃ x, e = .returned x ∧ Ret ι s w l x w')
def FOk (E : Env) (F : CallF) : Prop := ∀ f args s l, F f args s = .ok l → ∀ ι w vs, HRel ι s w → relL ι args vs → CallOk E f vs ι s w l
def Cls.wrOf : Cls → Option WrF
 | .wr g => some g
 | .vw _ g => some g
 | _ => none
section
variable {E : Env} (hE : EnvOk E) {ι : Io} {fr : Fr} {ρ : Operand → Value} (H : ERel ι fr ρ) {o : Oper} {s : St} {w : World} (HR : HRel ι s w) {l : List (AV × St)} {F : CallF} (hF : FOk E F)
include hE H HR hF
theorem w_call {f : Operand} {args : Array Operand} {ts : Array TypeId} (ho : o.op = .call { callee := .value f, args, argTypes := ts }) (h : wCall f args E F fr s = .ok l) : WOk E ι o ρ s w l := by
 unfold wCall at h
 split at h
 ·rename_i as has
  split at h
  ·rename_i g first captured hf
   obtain ⟨fi, ca, e, h1, h2⟩ := H _ _ hf
   have hr := evs_rel H has
   have hc := hF _ _ _ _ h ι w _ HR ((h1.append hr).append h2)
   have earr : (List.toArray fi ++ args.map ρ) ++ List.toArray ca = List.toArray (fi ++ args.toList.map ρ ++ ca) := by
    apply Array.ext'; simp
   have hrun : (execOp ρ o).run E.P w = (callFunc g (List.toArray (fi ++ args.toList.map ρ ++ ca))).run E.P w := by
    rw [← earr]
    simp only [execOp, ho, resolve, e, Deferred.ofValue, Sem.run_bind, Sem.run_pure, Result.andThen_ok, invoke]
   intro a ha next Q hn
   unfold Oper.wp
   rw [ha, hrun]
   rcases hc with ⟨x, w', c1, p, c2, ι', c3, c4⟩ | ⟨c1, c2⟩
   ·rw [c1]; exact hn p c2 x w' ι' c3 c4
   ·rw [c1]
    refine c2.mono ?_
    rintro e' w' ⟨x, rfl, p, c3, ι', c4, c5⟩
    exact hn p c3 x w' ι' c4 c5
  ·cases h
  ·cases h
 ·cases h
theorem w_append {args : Array Operand} {ts : Array TypeId} (ho : o.op = .call { callee := .builtin .append, args, argTypes := ts }) (h : wAppend args ts E F fr s = .ok l) : WOk E ι o ρ s w l := by
 unfold wAppend at h
 split at h
 ·rename_i x y hx
  have hr := evs_rel H hx
  obtain ⟨vx, vs, e1, hvx, vy, vs', e2, hvy, e3⟩ := hr
  have e3 : vs' = [] := e3
  subst e2 e3
  obtain ⟨p, hp, rfl⟩ := one_ok h
  obtain ⟨z, w', ι', r1, r2, r3⟩ := aappend_ok (ty := o.type) hE HR hp hvx hvy
  refine w_value (List.mem_singleton.2 rfl) ?_ r2 r3
  have ea : args.map ρ = #[vx, vy] := by apply Array.ext'; simpa using e1
  simp only [execOp, ho, resolve, ea, Sem.run_bind, Sem.run_pure, Result.andThen_ok, invoke, builtin, r1]
 ·cases h
 ·cases h
theorem w_copy {args : Array Operand} {ts : Array TypeId} (ho : o.op = .call { callee := .builtin .copy, args, argTypes := ts }) (h : wCopy args ts E F fr s = .ok l) : WOk E ι o ρ s w l := by
 unfold wCopy at h
 split at h
 ·rename_i x y hx
  obtain ⟨vx, vs, e1, hvx, vy, vs', e2, hvy, e3⟩ := evs_rel H hx
  have e3 : vs' = [] := e3
  subst e2 e3
  obtain ⟨p, hp, rfl⟩ := one_ok h
  obtain ⟨z, w', r1, r2, r3⟩ := acopy_ok (ty := o.type) hE HR hp hvx hvy
  refine w_value (List.mem_singleton.2 rfl) ?_ r2 r3
  have ea : args.map ρ = #[vx, vy] := by apply Array.ext'; simpa using e1
  simp only [execOp, ho, resolve, ea, Sem.run_bind, Sem.run_pure, Result.andThen_ok, invoke, builtin, r1]
 ·cases h
 ·cases h
theorem w_delete {args : Array Operand} {ts : Array TypeId} (ho : o.op = .call { callee := .builtin .delete, args, argTypes := ts }) (h : wDelete args ts E F fr s = .ok l) : WOk E ι o ρ s w l := by
 unfold wDelete at h
 split at h
 ·rename_i x y hx
  obtain ⟨vx, vs, e1, hvx, vy, vs', e2, hvy, e3⟩ := evs_rel H hx
  have e3 : vs' = [] := e3
  subst e2 e3
  split at h
  ·rename_i t ht
   obtain ⟨p, hp, rfl⟩ := unit_ok h
   obtain ⟨w', r1, r2⟩ := adelete_ok (ty := o.type) hE HR ht hp hvx hvy
   refine w_value (List.mem_singleton.2 rfl) ?_ r2 ⟨[], rfl, rfl⟩
   have ea : args.map ρ = #[vx, vy] := by apply Array.ext'; simpa using e1
   simp only [execOp, ho, resolve, ea, Sem.run_bind, Sem.run_pure, Result.andThen_ok, invoke, builtin, r1]
  ·cases h
 ·cases h
 ·cases h
theorem w_clear {args : Array Operand} {ts : Array TypeId} (ho : o.op = .call { callee := .builtin .clear, args, argTypes := ts }) (h : wClear args ts E F fr s = .ok l) : WOk E ι o ρ s w l := by
 unfold wClear at h
 split at h
 ·rename_i x hx
  obtain ⟨vx, vs, e1, hvx, e3⟩ := evs_rel H hx
  have e3 : vs = [] := e3
  subst e3
  split at h
  ·rename_i t ht
   obtain ⟨p, hp, rfl⟩ := unit_ok h
   obtain ⟨w', r1, r2⟩ := aclear_ok (ty := o.type) hE HR ht hp hvx
   refine w_value (List.mem_singleton.2 rfl) ?_ r2 ⟨[], rfl, rfl⟩
   have ea : args.map ρ = #[vx] := by apply Array.ext'; simpa using e1
   simp only [execOp, ho, resolve, ea, Sem.run_bind, Sem.run_pure, Result.andThen_ok, invoke, builtin, r1]
  ·cases h
 ·cases h
 ·cases h
theorem w_store {t : TypeId} {a x : Operand} (ho : o.op = .store t a x) (h : wStore t a x E F fr s = .ok l) : WOk E ι o ρ s w l := by
 unfold wStore at h
 split at h
 ·rename_i p hp
  split at h
  ·rename_i q hq
   obtain ⟨s', h1, rfl⟩ := unit_ok h
   obtain ⟨w', r1, r2⟩ := astore_ok hE HR h1 (H _ _ hp) (H _ _ hq)
   refine w_skip (List.mem_singleton.2 rfl) ?_ r2
   simp only [execOp, ho, Sem.run_bind, r1, Result.andThen_ok, Sem.run_pure]
  ·cases h
 ·cases h
theorem w_map {t : TypeId} {m k x : Operand} (ho : o.op = .mapUpdate t m k x ∨ o.op = .insert t m k x) (h : wMap t m k x E F fr s = .ok l) : WOk E ι o ρ s w l := by
 unfold wMap at h
 split at h
 ·rename_i p q r hx
  obtain ⟨v1, vs1, e1, h1, v2, vs2, e2, h2, v3, vs3, e3, h3, e4⟩ := evs_rel H hx
  simp only [List.map_cons, List.map_nil, List.cons.injEq] at e1
  obtain ⟨rfl, rfl⟩ := e1
  simp only [List.cons.injEq] at e2
  obtain ⟨rfl, rfl⟩ := e2
  simp only [List.cons.injEq] at e3
  obtain ⟨rfl, _⟩ := e3
  obtain ⟨s', g1, rfl⟩ := unit_ok h
  obtain ⟨w', r1, r2⟩ := amapUpdate_ok hE HR g1 h1 h2 h3
  refine w_skip (List.mem_singleton.2 rfl) ?_ r2
  rcases ho with ho | ho <;> simp only [execOp, ho, Sem.run_bind, r1, Result.andThen_ok, Sem.run_pure]
 ·cases h
 ·cases h
theorem w_entry {t : TypeId} {m k : Operand} (ho : o.op = .mapEntry t m k) (h : wEntry t m k E F fr s = .ok l) : WOk E ι o ρ s w l := by
 unfold wEntry at h
 split at h
 ·rename_i p q hx
  obtain ⟨v1, vs1, e1, h1, v2, vs2, e2, h2, e3⟩ := evs_rel H hx
  simp only [List.map_cons, List.map_nil, List.cons.injEq] at e1
  obtain ⟨rfl, rfl⟩ := e1
  simp only [List.cons.injEq] at e2
  obtain ⟨rfl, _⟩ := e2
  obtain ⟨p, g1, rfl⟩ := one_ok h
  obtain ⟨z, w', r1, r2, r3⟩ := amapEntry_ok hE HR g1 h1 h2
  refine w_value (List.mem_singleton.2 rfl) ?_ r2 r3
  simp only [execOp, ho, Sem.run_bind, r1, Result.andThen_ok, Sem.run_pure]
 ·cases h
 ·cases h
theorem w_entryStore {t : TypeId} {m k x : Operand} (ho : o.op = .entryStore t m k x) (h : wEntryStore m k x E F fr s = .ok l) : WOk E ι o ρ s w l := by
 unfold wEntryStore at h
 split at h
 ·rename_i p q r hx
  obtain ⟨v1, vs1, e1, h1, v2, vs2, e2, h2, v3, vs3, e3, h3, e4⟩ := evs_rel H hx
  simp only [List.map_cons, List.map_nil, List.cons.injEq] at e1
  obtain ⟨rfl, rfl⟩ := e1
  simp only [List.cons.injEq] at e2
  obtain ⟨rfl, rfl⟩ := e2
  simp only [List.cons.injEq] at e3
  obtain ⟨rfl, _⟩ := e3
  obtain ⟨s', g1, rfl⟩ := unit_ok h
  obtain ⟨w', r1, r2⟩ := aentryStore_ok (t := t) hE HR g1 h1 h2 h3
  refine w_skip (List.mem_singleton.2 rfl) ?_ r2
  simp only [execOp, ho, Sem.run_bind, r1, Result.andThen_ok, Sem.run_pure]
 ·cases h
 ·cases h
theorem w_range {t : TypeId} {x : Operand} (ho : o.op = .range t x) (h : wRange t x E F fr s = .ok l) : WOk E ι o ρ s w l := by
 unfold wRange at h
 split at h
 ·rename_i p hp
  obtain ⟨q, g1, rfl⟩ := one_ok h
  obtain ⟨z, w', ι', r1, r2, r3⟩ := arange_ok hE HR g1 (H _ _ hp)
  refine w_value (List.mem_singleton.2 rfl) ?_ r2 r3
  simp only [execOp, ho, Sem.run_bind, r1, Result.andThen_ok, Sem.run_pure]
 ·cases h
theorem w_next {it : Operand} {b : Bool} (ho : o.op = .next it b) (h : wNext it b E F fr s = .ok l) : WOk E ι o ρ s w l := by
 unfold wNext at h
 split at h
 ·rename_i p hp
  cases b with
  | true =>
   obtain ⟨z, w', r, r0, r1, r2, r3⟩ := anextS_ok (ty := o.type) hE HR h (H _ _ hp)
   refine w_value r0 ?_ r2 r3
   simp only [execOp, ho, Sem.run_bind, r1, Result.andThen_ok, Sem.run_pure]
  | false =>
   obtain ⟨z, w', r, r0, r1, r2, r3⟩ := anext_ok (ty := o.type) hE HR h (H _ _ hp)
   refine w_value r0 ?_ r2 r3
   simp only [execOp, ho, Sem.run_bind, r1, Result.andThen_ok, Sem.run_pure]
 ·cases h
theorem w_convert {src dst : TypeId} {x : Operand} (ho : o.op = .convert src dst x) (h : wConvert src dst x E F fr s = .ok l) : WOk E ι o ρ s w l := by
 unfold wConvert at h
 split at h
 ·rename_i h1
  split at h
  ·rename_i e h2
   split at h
   ·rename_i b hb
    rw [R.cond_ok, Bool.and_eq_true, ble_eq] at h
    obtain ⟨⟨g1, g2⟩, h⟩ := h
    injection h with h; subst h
    obtain ⟨z, w', ι', r1, r2, r3⟩ := aconvert_ok hE HR h1 h2 g1 (of_decide_eq_true g2)
    refine w_value (List.mem_singleton.2 rfl) ?_ r2 r3
    have := (H _ _ hb).1
    simp only [execOp, ho, this, Sem.run_bind, r1, Result.andThen_ok, Sem.run_pure]
   ·cases h
   ·cases h
  ·cases h
  ·cases h
 ·cases h
 ·cases h
theorem wr_ok {g : WrF} (hc : (cls o.op).wrOf = some g) (h : g E F fr s = .ok l) : WOk E ι o ρ s w l := by
 cases hop : o.op with
 | convert a b c => rw [hop] at hc; injection hc with hc; subst hc; exact w_convert hE H HR hF hop h
 | store a b c => rw [hop] at hc; injection hc with hc; subst hc; exact w_store hE H HR hF hop h
 | mapUpdate a b c d => rw [hop] at hc; injection hc with hc; subst hc; exact w_map hE H HR hF (.inl hop) h
 | insert a b c d => rw [hop] at hc; injection hc with hc; subst hc; exact w_map hE H HR hF (.inr hop) h
 | mapEntry a b c => rw [hop] at hc; injection hc with hc; subst hc; exact w_entry hE H HR hF hop h
 | entryStore a b c d => rw [hop] at hc; injection hc with hc; subst hc; exact w_entryStore hE H HR hF hop h
 | range a b => rw [hop] at hc; injection hc with hc; subst hc; exact w_range hE H HR hF hop h
 | next a b => rw [hop] at hc; injection hc with hc; subst hc; exact w_next hE H HR hF hop h
 | call c =>
  rw [hop] at hc
  obtain ⟨callee, args, ts⟩ := c
  cases callee with
  | value f => injection hc with hc; subst hc; exact w_call hE H HR hF hop h
  | invoke r m => cases hc
  | builtin b =>
   cases b with
   | append => injection hc with hc; subst hc; exact w_append hE H HR hF hop h
   | copy => injection hc with hc; subst hc; exact w_copy hE H HR hF hop h
   | delete => injection hc with hc; subst hc; exact w_delete hE H HR hF hop h
   | clear => injection hc with hc; subst hc; exact w_clear hE H HR hF hop h
   | _ => cases hc
 | _ => rw [hop] at hc; cases hc
end
end Go.Ev
namespace Go.Ev
theorem bindL_mem {α β : Type} {f : α → R (List β)} : ∀ {l : List α} {r : List β}, bindL l f = .ok r → ∀ p ∈ l, ∃ rp, f p = .ok rp ∧ ∀ q ∈ rp, q ∈ r
 | [], r, _, p, hp => by cases hp
 | [a], r, h, p, hp => by
  rw [List.mem_singleton.1 hp]
  exact ⟨r, h, fun q hq => hq⟩
 | a :: b :: l, r, h, p, hp => by
  simp only [bindL] at h
  cases ha : f a with
  | err c => rw [ha] at h; cases h
  | ok x =>
   rw [ha] at h
   cases hr : bindL (b :: l) f with
   | err c => rw [hr] at h; cases h
   | ok y =>
    rw [hr] at h
    injection h with h; subst h
    rcases List.mem_cons.1 hp with rfl | hp
    ·exact ⟨x, ha, fun q hq => List.mem_append.2 (.inl hq)⟩
    ·obtain ⟨rp, h1, h2⟩ := bindL_mem hr p hp
     exact ⟨rp, h1, fun q hq => List.mem_append.2 (.inr (h2 q hq))⟩
theorem undef_rel (ι : Io) : rel ι (.tuple []) undef := ⟨[], rfl, rfl⟩
/-- a guard -/
theorem wanted_ok {ι : Io} {n : Nat} {fr : Fr} {a : Act} (H : FRel ι n fr a) {ops : Array Oper} {o : Oper} {b : Bool} (h : wantedA ops fr o = .ok b) : Region.wanted o (yielded ops a.tmps) = b := by
 unfold wantedA at h
 unfold Region.wanted
 cases hg : o.guard with
 | none => rw [hg] at h; injection h
 | some g =>
  obtain ⟨j, want⟩ := g
  rw [hg] at h
  simp only at h ⊢
  unfold yielded
  cases hd : (ops[j]?).bind (·.dst) with
  | none => rw [hd] at h; cases h
  | some d =>
   rw [hd] at h
   simp only at h
   cases ht : fr.t.get d with
   | none => rw [ht] at h; cases h
   | some v =>
    rw [ht] at h
    have hr := H.slot d v ht
    split at h
    ·rename_i x heq
     injection heq with heq
     subst heq
     injection h with h
     have e := hr.1
     have hs : a.tmps[d]? = some (.bool x) := by
      cases hx : a.tmps[d]? with
      | none => rw [Array.getD_eq_getD_getElem?, hx] at e; cases e
      | some y => rw [Array.getD_eq_getD_getElem?, hx] at e; exact congrArg some e
     simp only [Option.bind_some, hs]
     cases want <;> cases x <;> simp at h ⊢ <;> exact h
    ·rename_i cs heq
     injection heq with heq
     subst heq
     injection h with h
     subst h
     obtain ⟨l, e, _⟩ := hr
     simp only [Option.bind_some]
     cases hx : a.tmps[d]? with
     | none => rfl
     | some y =>
      rw [Array.getD_eq_getD_getElem?, hx] at e
      have e : y = _ := e
      subst e
      rfl
    ·cases h
section
variable {E : Env} (hE : EnvOk E) {F : CallF} (hF : FOk E F)
include hE
/-- a deferred call -/
theorem adefer_ok {ι : Io} {n : Nat} {fr fr' : Fr} {a : Act} (H : FRel ι n fr a) {o : Oper} {c : Call} (ho : o.op = .defer c) (h : adefer fr c = .ok fr') :
  ∃ d, (∀ w, (execOp a.eval o).run E.P w = .ok (.defer d) w) ∧ FRel ι n fr' { a with defers := d :: a.defers } := by
 unfold adefer at h
 split at h
 ·rename_i as has
  split at h
  ·rename_i f hcal
   split at h
   ·rename_i g first captured hf
    injection h with h; subst h
    obtain ⟨fi, ca, e, h1, h2⟩ := H.ev _ _ hf
    have hr := evs_rel H.ev has
    refine ⟨{ target := .fn (.func g) (List.toArray ca), args := List.toArray (fi ++ c.args.toList.map a.eval) }, fun w => ?_, ⟨H.slot, H.size, _, _, _, rfl, h1.append hr, h2, H.ds⟩⟩
    have earr : List.toArray fi ++ c.args.map a.eval = List.toArray (fi ++ c.args.toList.map a.eval) := by apply Array.ext'; simp
    rw [← earr]
    obtain ⟨callee, args, ts⟩ := c
    simp only at hcal
    subst hcal
    generalize a.eval = ρ at *
    simp only [execOp, ho, resolve, e, Deferred.ofValue, Sem.run_bind, Sem.run_pure, Result.andThen_ok]
   ·cases h
   ·cases h
  ·cases h
 ·cases h
include hF
theorem evOps_ok {n : Nat} {ops : Array Oper} : ∀ (l : List Oper) (fr : Fr) (s : St) (r : List (Fr × St)), evOps E F ops l fr s = .ok r → (∀ o ∈ l, fitsO n o = true) →
  ∀ (ι : Io) (w : World) (a : Act), FRel ι n fr a → HRel ι s w → ∀ Q : Exit → Act → World → Prop, (∀ p ∈ r, ∀ a' w' ι', Stp ι s w ι' p.2 w' → FRel ι' n p.1 a' → Q .normal a' w') → wpList E.P ops Q l a w
 | [], fr, s, r, h, hfit, ι, w, a, H, HR, Q, hQ => by
  injection h with h; subst h
  exact hQ _ (List.mem_singleton.2 rfl) a w ι (Stp.refl HR) H
 | o :: os, fr, s, r, h, hfit, ι, w, a, H, HR, Q, hQ => by
  have h : evOp E F ops o (evOps E F ops os) fr s = .ok r := h
  have hfo : ∀ d, o.dst = some d → d < n := by
   intro d hd
   have := hfit o (by simp)
   unfold fitsO at this
   rw [hd] at this
   simp only [blt_eq] at this
   exact of_decide_eq_true this
  have hfit' : ∀ o ∈ os, fitsO n o = true := fun o' ho' => hfit o' (by simp [ho'])
  have next : ∀ (fr1 : Fr) (s1 : St) (r1 : List (Fr × St)) (ι1 : Io) (w1 : World) (a1 : Act), evOps E F ops os fr1 s1 = .ok r1 → (∀ q ∈ r1, q ∈ r) → Stp ι s w ι1 s1 w1 → FRel ι1 n fr1 a1 → wpList E.P ops Q os a1 w1 :=
   fun fr1 s1 r1 ι1 w1 a1 h1 hsub hst hfr => evOps_ok os fr1 s1 r1 h1 hfit' ι1 w1 a1 hfr hst.h Q fun p hp a' w' ι' hst' hfr' => hQ p (hsub p hp) a' w' ι' (hst.trans hst') hfr'
  unfold evOp at h
  unfold wpList
  split at h
  ·rename_i hw
   rw [if_pos (wanted_ok H hw)]
   left
   have valc : ∀ (f : ValF) (av : AV), (cls o.op).valOf = some f → f E fr o = .ok av → evOps E F ops os (fr.put o.dst av) s = .ok r → o.wp E.P a w (wpList E.P ops Q os) Q := by
    intro f av hc hf hk
    obtain ⟨x, hx, hrun⟩ := val_ok hE H.ev hc hf
    unfold Oper.wp
    rw [hrun w]
    exact next _ _ r ι w _ hk (fun q hq => hq) (Stp.refl HR) (H.put hfo hx)
   have rdc : ∀ (g : RdF) (av : AV), rdOf (cls o.op) = some g → g E fr s = .ok av → evOps E F ops os (fr.put o.dst av) s = .ok r → o.wp E.P a w (wpList E.P ops Q os) Q := by
    intro g av hc hf hk
    obtain ⟨x, hx, hrun⟩ := rd_ok hE H.ev HR hc hf
    unfold Oper.wp
    rw [hrun]
    exact next _ _ r ι w _ hk (fun q hq => hq) (Stp.refl HR) (H.put hfo hx)
   have wrc : ∀ (g : WrF) (l : List (AV × St)), (cls o.op).wrOf = some g → g E F fr s = .ok l → (bindL l fun x => evOps E F ops os (fr.put o.dst x.1) x.2) = .ok r → o.wp E.P a w (wpList E.P ops Q os) Q := by
    intro g l hc hf hk
    refine wr_ok hE H.ev HR hF hc hf a rfl _ Q fun p hp x w' ι' hst hx => ?_
    obtain ⟨rp, k1, k2⟩ := bindL_mem hk p hp
    exact next _ _ rp ι' w' _ k1 k2 hst ((H.sub hst.sub).put hfo hx)
   unfold evCls at h
   split at h
   ·rename_i f hc
    unfold kVal at h
    split at h
    ·rename_i av hf; exact valc f av (by rw [hc]; rfl) hf h
    ·cases h
   ·rename_i g hc
    unfold kVal at h
    split at h
    ·rename_i av hf; exact rdc g av (by rw [hc]; rfl) hf h
    ·cases h
   ·rename_i f g hc
    split at h
    ·rename_i av hf; exact valc f av (by rw [hc]; rfl) hf h
    ·unfold kVal at h
     split at h
     ·rename_i av hf; exact rdc g av (by rw [hc]; rfl) hf h
     ·cases h
   ·rename_i g hc
    unfold kNew at h
    split at h
    ·rename_i x hf
     obtain ⟨av, s1⟩ := x
     obtain ⟨b, rfl, hn⟩ := new_ok hE H.ev hc hf
     obtain ⟨x, ob, m, hrun, hb, hx⟩ := hn w
     unfold Oper.wp
     rw [hrun]
     have hst := Stp.new (n := m) HR hb
     exact next _ _ r _ _ _ h (fun q hq => hq) hst ((H.sub hst.sub).put hfo (hx _ Io.up_self))
    ·cases h
   ·rename_i g hc
    unfold kWr at h
    split at h
    ·rename_i l hf; exact wrc g l (by rw [hc]; rfl) hf h
    ·cases h
   ·rename_i f g hc
    split at h
    ·rename_i av hf; exact valc f av (by rw [hc]; rfl) hf h
    ·unfold kWr at h
     split at h
     ·rename_i l hf; exact wrc g l (by rw [hc]; rfl) hf h
     ·cases h
   ·rename_i c hc
    unfold kDfr at h
    split at h
    ·rename_i fr1 hf
     have hop : o.op = .defer c := by
      cases hop : o.op <;> rw [hop] at hc <;> first | (cases hc; done) | skip
      ·rename_i c'
       obtain ⟨callee, args, ts⟩ := c'
       cases callee with
       | value f => cases hc
       | invoke r m => cases hc
       | builtin b => cases b <;> cases hc
      ·injection hc with hc; rw [hc]
     obtain ⟨d, hrun, hfr⟩ := adefer_ok hE H hop hf
     unfold Oper.wp
     rw [hrun w]
     exact next _ _ r ι w _ h (fun q hq => hq) (Stp.refl HR) (hfr.put hfo (undef_rel ι))
    ·cases h
   ·cases h
  ·rename_i hw
   rw [if_neg (by rw [wanted_ok H hw]; simp)]
   exact next _ _ r ι w _ h (fun q hq => hq) (Stp.refl HR) (H.put hfo (undef_rel ι))
  ·cases h
end
end Go.Ev
namespace Go.Ev


/-- the frame's slots, as a function -/
def frameOf (n : Nat) (x : Nat → Value) : Array Value := ((List.range n).map x).toArray
def putX (x : Nat → Value) (dst : Option Tmp) (v : Value) : Nat → Value := fun t => if dst = some t then v else x t
theorem frameOf_put (n : Nat) (x : Nat → Value) (ds : List Deferred) (dst : Option Tmp) (v : Value) : (⟨frameOf n x, ds⟩ : Act).put dst v = ⟨frameOf n (putX x dst v), ds⟩ := by
 cases dst with
 | none =>
  have : putX x none v = x := by funext t; simp [putX]
  rw [this]; rfl
 | some d =>
  simp only [Act.put, frameOf, Act.mk.injEq, and_true]
  apply Array.ext_getElem?
  intro i
  rw [Array.getElem?_setIfInBounds]
  simp only [List.getElem?_toArray, List.getElem?_map, List.size_toArray, List.length_map, List.length_range]
  by_cases h : d = i
  ·subst h
   by_cases hd : d < n
   ·simp [hd, putX]
   ·simp [hd]
  ·simp only [h, if_false]
   by_cases hi : i < n
   ·simp [List.getElem?_range hi, h, putX]
   ·simp [Nat.le_of_not_lt hi]
theorem frameOf_self (a : Act) : a = ⟨frameOf a.tmps.size (fun t => a.tmps.getD t undef), a.defers⟩ := by
 obtain ⟨t, d⟩ := a
 simp only [Act.mk.injEq, and_true]
 apply Array.ext_getElem?
 intro i
 simp only [frameOf, List.getElem?_toArray, List.getElem?_map]
 by_cases hi : i < t.size
 ·simp [hi]
 ·simp [Nat.le_of_not_lt hi]
/-- which operations wait for which, in a program that mixes orders -/
def binders (ops : Array Oper) (i : Nat) : List Nat := ((ops[i]?).map (fun o => (o.after.toList.filter (fun e => Region.binds .any e)).map (·.on))).getD []
theorem wpAny_inv {P : Program} {ops : Array Oper} {Q : Exit → Act → World → Prop} {n : Nat} {ds : List Deferred} (J : (Nat → Bool) → (Nat → Value) → World → Prop)
  (hstep : ∀ i o, ops[i]? = some o → ∀ L x w, J L x w → L i = false → (∀ k ∈ binders ops i, L k = true) →
   ∀ K : Act → World → Prop, (∀ v w', J (fun k => k == i || L k) (putX x o.dst v) w' → K ((⟨frameOf n x, ds⟩ : Act).put o.dst v) w') → wpOp P ops Q i K ⟨frameOf n x, ds⟩ w)
  (hend : ∀ L x w, J L x w → (∀ k, k < ops.size → L k = true) → Q .normal ⟨frameOf n x, ds⟩ w)
  (hord : ∀ listed : Array Bool, listed.size = ops.size → Region.ready .any ops listed = [] → ∀ k, k < ops.size → listed.getD k true = true) :
  ∀ fuel (listed : Array Bool) x w, listed.size = ops.size → (List.range ops.size).countP (fun k => !listed.getD k true) ≤ fuel → J (fun k => listed.getD k true) x w → wpAny P .any ops Q fuel listed ⟨frameOf n x, ds⟩ w := by
 intro fuel
 induction fuel with
 | zero =>
  intro listed x w hsz hf hJ
  have h0 : ∀ k, k < ops.size → listed.getD k true = true := by
   intro k hk
   have := List.countP_eq_zero.1 (Nat.le_zero.1 hf) k (List.mem_range.2 hk)
   simpa using this
  refine ⟨?_, hend _ x w hJ h0⟩
  unfold Region.ready
  rw [List.filter_eq_nil_iff]
  intro k hk
  simp [h0 k (List.mem_range.1 hk)]
 | succ fuel ih =>
  intro listed x w hsz hf hJ
  refine ⟨fun hr => hend _ x w hJ (hord listed hsz hr), ?_⟩
  intro i hi
  obtain ⟨h1, o, ho, hall⟩ := mem_ready.1 hi
  have hil : i < ops.size := (Array.getElem?_eq_some_iff.1 ho).1
  refine hstep i o ho _ x w hJ h1 ?_ _ ?_
  ·intro k hk
   simp only [binders, ho, Option.map_some, Option.getD_some, List.mem_map, List.mem_filter] at hk
   obtain ⟨e, ⟨he, hb⟩, rfl⟩ := hk
   have := hall e (by simpa using he) hb
   rcases Nat.lt_or_ge e.on listed.size with h' | h'
   ·simp [h'] at this ⊢; exact this
   ·simp [Nat.not_lt.2 h'] at this
  ·intro v w' hJ'
   rw [frameOf_put]
   refine ih (listed.setIfInBounds i true) _ w' (by simp [hsz]) ?_ ?_
   ·have : (List.range ops.size).countP (fun k => !(listed.setIfInBounds i true).getD k true) + 1 ≤ (List.range ops.size).countP (fun k => !listed.getD k true) := by
     clear hall hJ hJ' ih hf hi
     generalize ops.size = m at *
     have key : ∀ l : List Nat, l.Nodup → i ∈ l → l.countP (fun k => !(listed.setIfInBounds i true).getD k true) + 1 ≤ l.countP (fun k => !listed.getD k true) := by
      intro l hn hmem
      have hle : ∀ l' : List Nat, i ∉ l' → l'.countP (fun k => !(listed.setIfInBounds i true).getD k true) = l'.countP (fun k => !listed.getD k true) := by
       intro l' hni
       apply List.countP_congr
       intro k hk
       have hki : i ≠ k := fun e => hni (e ▸ hk)
       rw [getD_set_ne true hki]
      induction l with
      | nil => simp at hmem
      | cons y ys ih2 =>
       rw [List.countP_cons, List.countP_cons]
       rcases List.mem_cons.1 hmem with rfl | hm
       ·rw [hle ys (List.nodup_cons.1 hn).1]
        have e1 : (listed.setIfInBounds i true).getD i true = true := by simp [Array.getD_eq_getD_getElem?, hsz, hil]
        rw [e1, h1]
        simp
       ·have hyi : i ≠ y := fun e => (List.nodup_cons.1 hn).1 (e ▸ hm)
        have := ih2 (List.nodup_cons.1 hn).2 hm
        rw [getD_set_ne true hyi]
        omega
     exact key _ List.nodup_range (List.mem_range.2 hil)
    omega
   ·have : (fun k => (listed.setIfInBounds i true).getD k true) = (fun k => k == i || listed.getD k true) := by
     funext k
     by_cases hk : i = k
     ·subst hk
      simp [Array.getD_eq_getD_getElem?, hsz, hil]
     ·rw [getD_set_ne true hk]
      have : (k == i) = false := by simpa using Ne.symm hk
      rw [this]
      rfl
    rw [this]
    exact hJ'
/-- each operation waits for earlier ones alone -/
def fwdB (ops : Array Oper) : Bool := (List.range ops.size).all fun i => (binders ops i).all fun k => decide (k < i)
theorem ord_of_fwd {ops : Array Oper} (h : fwdB ops = true) (listed : Array Bool) (hsz : listed.size = ops.size) (hr : Region.ready .any ops listed = []) : ∀ k, k < ops.size → listed.getD k true = true := by
 intro k
 induction k using Nat.strongRecOn with
 | _ k ih =>
  intro hk
  cases hl : listed.getD k true with
  | true => rfl
  | false =>
   exfalso
   obtain ⟨o, ho⟩ : ∃ o, ops[k]? = some o := ⟨ops[k], Array.getElem?_eq_getElem hk⟩
   have : k ∈ Region.ready .any ops listed := by
    refine mem_ready.2 ⟨hl, o, ho, fun e he hb => ?_⟩
    have hm : e.on ∈ binders ops k := by
     simp only [binders, ho, Option.map_some, Option.getD_some, List.mem_map, List.mem_filter]
     exact ⟨e, ⟨by simpa using he, hb⟩, rfl⟩
    have hlt : e.on < k := by
     have h1 := List.all_eq_true.1 h k (List.mem_range.2 hk)
     have h2 := List.all_eq_true.1 h1 e.on hm
     simpa using h2
    have := ih e.on hlt (by omega)
    have h' : e.on < listed.size := by omega
    simp [h'] at this ⊢
    exact this
   rw [hr] at this
   cases this
theorem wp_region_inv {P : Program} {id : Nat} {ops : Array Oper} {Q : Exit → Act → World → Prop} {a : Act} {w : World} (n : Nat) (J : (Nat → Bool) → (Nat → Value) → World → Prop)
  (hm : P.follows .mixedOrders = true) (hn : a.tmps.size = n) (hf : fwdB ops = true)
  (h0 : J (fun k => decide (ops.size ≤ k)) (fun t => a.tmps.getD t undef) w.drew)
  (hstep : ∀ i o, ops[i]? = some o → ∀ L x w, J L x w → L i = false → (∀ k ∈ binders ops i, L k = true) →
   ∀ K : Act → World → Prop, (∀ v w', J (fun k => k == i || L k) (putX x o.dst v) w' → K ((⟨frameOf n x, a.defers⟩ : Act).put o.dst v) w') → wpOp P ops Q i K ⟨frameOf n x, a.defers⟩ w)
  (hend : ∀ L x w, J L x w → (∀ k, k < ops.size → L k = true) → Q .normal ⟨frameOf n x, a.defers⟩ w) : (Code.region id ops true).wp P Q a w := by
 refine wp_region_any hm ?_
 have ha := frameOf_self a
 rw [hn] at ha
 have he : (fun k => (Array.replicate ops.size false).getD k true) = (fun k => decide (ops.size ≤ k)) := by
  funext k
  by_cases hk : k < ops.size
  ·have : ¬ ops.size ≤ k := by omega
   simp [hk, this]
  ·have : ops.size ≤ k := by omega
   simp [hk, this]
 have := wpAny_inv (P := P) (Q := Q) (ops := ops) (n := n) (ds := a.defers) J hstep hend (ord_of_fwd hf) ops.size (Array.replicate ops.size false) (fun t => a.tmps.getD t undef) w.drew (by simp) (by
  refine Nat.le_trans List.countP_le_length ?_
  simp) (by rw [he]; exact h0)
 rw [← ha] at this
 exact this
end Go.Ev
namespace Go.Ev
/-! names of blocks: equality told by beqA is equality -/
mutual
theorem beqA_eq : ∀ (a b : AV), beqA a b = true → a = b
 | .g a, .g b, h => by
  simp only [beqA] at h
  split at h
  ·rename_i x y; simp at h; subst h; rfl
  ·rename_i k x k' y
   rw [Bool.and_eq_true, eqI_eq] at h
   have h1 := sameK_eq h.1
   have h2 : x = y := by simpa using h.2
   subst h1 h2; rfl
  ·rename_i x y
   have h : x.data.toList = y.data.toList := by simpa using h
   have : x = y := ByteArray.ext (Array.ext' h)
   subst this; rfl
  all_goals first | rfl | cases h
 | .ptr k o, .ptr k' o', h => by
  simp only [beqA, Bool.and_eq_true, beq_eq] at h
  rw [of_decide_eq_true h.1, of_decide_eq_true h.2]
 | .slice k o l x c e, .slice k' o' l' x' c' e', h => by
  simp only [beqA, Bool.and_eq_true, beq_eq] at h
  obtain ⟨⟨⟨⟨⟨h1, h2⟩, h3⟩, h4⟩, h5⟩, h6⟩ := h
  have h4 : x = x' := by simpa using h4
  rw [of_decide_eq_true h1, of_decide_eq_true h2, of_decide_eq_true h3, h4, of_decide_eq_true h5, of_decide_eq_true h6]
 | .map k, .map k', h => by
  simp only [beqA, beq_eq] at h
  rw [of_decide_eq_true h]
 | .func (.func f) a b, .func (.func f') a' b', h => by
  simp only [beqA, Bool.and_eq_true, beq_eq] at h
  rw [of_decide_eq_true h.1.1, beqL_eq a a' h.1.2, beqL_eq b b' h.2]
 | .iface t v, .iface t' v', h => by
  simp only [beqA, Bool.and_eq_true, beq_eq] at h
  rw [of_decide_eq_true h.1, beqA_eq v v' h.2]
 | .agg a, .agg b, h => by
  simp only [beqA] at h
  rw [beqL_eq a b h]
 | .tuple a, .tuple b, h => by
  simp only [beqA] at h
  rw [beqL_eq a b h]
theorem beqL_eq : ∀ (a b : List AV), beqL a b = true → a = b
 | [], [], _ => rfl
 | a :: r, b :: r', h => by
  simp only [beqL, Bool.and_eq_true] at h
  rw [beqA_eq a b h.1, beqL_eq r r' h.2]
end
/-! what an operation waits for, at last -/
def mk1 (acc : Array Nat) (o : Oper) : Nat := o.after.foldl (fun s e => if Region.binds .any e then s ||| 2 ^ e.on ||| acc.getD e.on 0 else s) 0
theorem before_eq (ops : Array Oper) : Region.before ops = ops.toList.foldl (fun acc o => acc.push (mk1 acc o)) #[] := by
 unfold Region.before mk1
 rw [Array.foldl_toList]
theorem mk1_bit (acc : Array Nat) (o : Oper) (i : Nat) (h : (mk1 acc o).testBit i = true) : ∃ e ∈ o.after.toList, Region.binds .any e = true ∧ (i = e.on ∨ (acc.getD e.on 0).testBit i = true) := by
 unfold mk1 at h
 rw [← Array.foldl_toList] at h
 have key : ∀ (l : List Edge) (s : Nat), ((l.foldl (fun s e => if Region.binds .any e then s ||| 2 ^ e.on ||| acc.getD e.on 0 else s) s).testBit i = true) → s.testBit i = true ∨ ∃ e ∈ l, Region.binds .any e = true ∧ (i = e.on ∨ (acc.getD e.on 0).testBit i = true) := by
  intro l
  induction l with
  | nil => intro s h; exact .inl h
  | cons e l ih =>
   intro s h
   simp only [List.foldl_cons] at h
   rcases ih _ h with h1 | ⟨e', h1, h2⟩
   ·by_cases hb : Region.binds .any e = true
    ·rw [if_pos hb, Nat.testBit_or, Nat.testBit_or, Bool.or_eq_true, Bool.or_eq_true] at h1
     rcases h1 with (h1 | h1) | h1
     ·exact .inl h1
     ·refine .inr ⟨e, by simp, hb, .inl ?_⟩
      rw [Nat.testBit_two_pow] at h1
      simp at h1; exact h1.symm
     ·exact .inr ⟨e, by simp, hb, .inr h1⟩
    ·rw [if_neg hb] at h1; exact .inl h1
   ·exact .inr ⟨e', by simp [h1], h2⟩
 rcases key _ _ h with h1 | h1
 ·simp at h1
 ·exact h1
theorem fold_get (l : List Oper) : ∀ (acc : Array Nat), let res := l.foldl (fun acc o => acc.push (mk1 acc o)) acc
  res.size = acc.size + l.length ∧ (∀ k, k < acc.size → res[k]? = acc[k]?) ∧
  ∀ (j : Nat) (o : Oper), l[j]? = some o → ∃ p : Array Nat, p.size = acc.size + j ∧ (∀ k, k < p.size → p[k]? = res[k]?) ∧ res[acc.size + j]? = some (mk1 p o) := by
 induction l with
 | nil => intro acc; simp
 | cons o l ih =>
  intro acc
  obtain ⟨h1, h2, h3⟩ := ih (acc.push (mk1 acc o))
  simp only [List.foldl_cons]
  simp only [Array.size_push] at h1 h2 h3
  refine ⟨by rw [h1]; simp; omega, fun k hk => ?_, fun j o' hj => ?_⟩
  ·rw [h2 k (by omega), Array.getElem?_push, if_neg (by omega)]
  ·cases j with
   | zero =>
    simp at hj; subst hj
    refine ⟨acc, rfl, fun k hk => ?_, ?_⟩
    ·rw [h2 k (by omega), Array.getElem?_push, if_neg (by omega)]
    ·rw [Nat.add_zero, h2 acc.size (by omega)]; simp
   | succ j =>
    obtain ⟨p, p1, p2, p3⟩ := h3 j o' (by simpa using hj)
    exact ⟨p, by omega, p2, by rw [show acc.size + (j + 1) = acc.size + 1 + j by omega]; exact p3⟩
/-- one step back -/
theorem before_bit (ops : Array Oper) (i : Nat) (o : Oper) (ho : ops[i]? = some o) (i' : Nat) (h : ((Region.before ops).getD i 0).testBit i' = true) :
  ∃ b ∈ binders ops i, i' = b ∨ ((Region.before ops).getD b 0).testBit i' = true := by
 rw [before_eq] at h ⊢
 obtain ⟨h1, h2, h3⟩ := fold_get ops.toList #[]
 obtain ⟨p, p1, p2, p3⟩ := h3 i o (by simpa using ho)
 simp only [Array.size_empty, Nat.zero_add] at p1 p3
 rw [Array.getD_eq_getD_getElem?, p3] at h
 obtain ⟨e, e1, e2, e3⟩ := mk1_bit p o i' h
 refine ⟨e.on, ?_, ?_⟩
 ·simp only [binders, ho, Option.map_some, Option.getD_some, List.mem_map, List.mem_filter]
  exact ⟨e, ⟨e1, e2⟩, rfl⟩
 ·rcases e3 with e3 | e3
  ·exact .inl e3
  ·right
   by_cases hlt : e.on < p.size
   ·rw [Array.getD_eq_getD_getElem?, p2 e.on hlt] at e3
    rw [Array.getD_eq_getD_getElem?]; exact e3
   ·rw [Array.getD_eq_getD_getElem?, Array.getElem?_eq_none (by omega)] at e3
    simp at e3
/-- what is done holds all that it waits for -/
theorem before_closed (ops : Array Oper) (hf : fwdB ops = true) (L : Nat → Bool) (hL : ∀ k, k < ops.size → L k = true → ∀ b ∈ binders ops k, L b = true) :
  ∀ k, k < ops.size → L k = true → ∀ i, ((Region.before ops).getD k 0).testBit i = true → L i = true := by
 intro k
 induction k using Nat.strongRecOn with
 | _ k ih =>
  intro hk hLk i hi
  obtain ⟨o, ho⟩ : ∃ o, ops[k]? = some o := ⟨ops[k], Array.getElem?_eq_getElem hk⟩
  obtain ⟨b, b1, b2⟩ := before_bit ops k o ho i hi
  have hb := hL k hk hLk b b1
  have hlt : b < k := by
   have h1 := List.all_eq_true.1 hf k (List.mem_range.2 hk)
   have h2 := List.all_eq_true.1 h1 b b1
   simpa using h2
  rcases b2 with rfl | b2
  ·exact hb
  ·exact ih b hlt (by omega) hb i b2
/-- what an operation waits for is done when all that binds it is -/
theorem before_done (ops : Array Oper) (hf : fwdB ops = true) (L : Nat → Bool) (hL : ∀ k, k < ops.size → L k = true → ∀ b ∈ binders ops k, L b = true) (i : Nat) (hi : i < ops.size)
  (hb : ∀ b ∈ binders ops i, L b = true) (i' : Nat) (h : ((Region.before ops).getD i 0).testBit i' = true) : L i' = true := by
 obtain ⟨o, ho⟩ : ∃ o, ops[i]? = some o := ⟨ops[i], Array.getElem?_eq_getElem hi⟩
 obtain ⟨b, b1, b2⟩ := before_bit ops i o ho i' h
 have hlt : b < i := by
  have h1 := List.all_eq_true.1 hf i (List.mem_range.2 hi)
  have h2 := List.all_eq_true.1 h1 b b1
  simpa using h2
 rcases b2 with rfl | b2
 ·exact hb _ b1
 ·exact before_closed ops hf L hL b (by omega) (hb b b1) i' b2
end Go.Ev
namespace Go.Ev
/-- one operation of a region that draws, in the order of the text -/
inductive DStep (E : Env) (F : CallF) (ops : Array Oper) (B : Array Nat) (k0 i : Nat) (o : Oper) (d : Dr) : Dr → AV → Prop where
 | skip (hw : wantedA ops d.fr o = .ok false) : DStep E F ops B k0 i o d { d with fr := d.fr.put o.dst (.tuple []) } (.tuple [])
 | val (hw : wantedA ops d.fr o = .ok true) (f : ValF) (a : AV) (hc : (cls o.op).valOf = some f) (h : f E (restr d.fr o) o = .ok a) : DStep E F ops B k0 i o d { d with fr := d.fr.put o.dst a } a
 | rd (hw : wantedA ops d.fr o = .ok true) (g : RdF) (a : AV) (hc : rdOf (cls o.op) = some g) (h : g E (restr d.fr o) (adopt (B.getD i 0) d.pend d.s).2 = .ok a) :
   DStep E F ops B k0 i o d { d with fr := d.fr.put o.dst a, reads := (i, restr d.fr o, o, a) :: d.reads } a
 | new (hw : wantedA ops d.fr o = .ok true) (f : NewF) (a : AV) (s' : St) (b : ABlk) (hc : cls o.op = .new f) (h : f E (restr d.fr o) ⟨.leaf, k0 + i⟩ = .ok (a, s')) (hb : s'.h.get (k0 + i) = some b) :
   DStep E F ops B k0 i o d { d with fr := d.fr.put o.dst a, pend := (i, k0 + i, b) :: d.pend } a
 | wr (hw : wantedA ops d.fr o = .ok true) (g : WrF) (a : AV) (s' : St) (hc : (cls o.op).wrOf = some g) (hall : d.done.all ((B.getD i 0).testBit ·) = true)
   (h : g E F (restr d.fr o) (adopt (B.getD i 0) d.pend d.s).2 = .ok [(a, s')]) :
   DStep E F ops B k0 i o d { d with fr := d.fr.put o.dst a, s := s', pend := (adopt (B.getD i 0) d.pend d.s).1, done := i :: d.done, hist := (i + 1, s') :: d.hist } a
theorem drawnOp_step {E : Env} {F : CallF} {ops : Array Oper} {B : Array Nat} {k0 i : Nat} {o : Oper} {d d' : Dr} (h : drawnOp E F ops B k0 i o d = .ok d') : ∃ a, DStep E F ops B k0 i o d d' a := by
 unfold drawnOp at h
 split at h
 ·rename_i hw
  injection h with h; subst h
  exact ⟨_, .skip hw⟩
 ·cases h
 ·rename_i hw
  have rdc : ∀ (g : RdF), rdOf (cls o.op) = some g → dRd i o d (restr d.fr o) (g E (restr d.fr o) (adopt (B.getD i 0) d.pend d.s).2) = .ok d' → ∃ a, DStep E F ops B k0 i o d d' a := by
   intro g hc h
   unfold dRd at h
   split at h
   ·rename_i v hv
    injection h with h; subst h
    exact ⟨v, .rd hw g v hc hv⟩
   ·cases h
  have wrc : ∀ (g : WrF), (cls o.op).wrOf = some g → dWr B i o d (g E F (restr d.fr o)) = .ok d' → ∃ a, DStep E F ops B k0 i o d d' a := by
   intro g hc h
   unfold dWr at h
   cases hall : d.done.all ((B.getD i 0).testBit ·) with
   | false => rw [hall] at h; cases h
   | true =>
    rw [hall] at h
    simp only [cond_true] at h
    split at h
    ·rename_i v s' hv
     injection h with h; subst h
     exact ⟨v, .wr hw g v s' hc hall hv⟩
    ·cases h
    ·cases h
  unfold drawnCls at h
  split at h
  ·rename_i f hc
   unfold dVal at h
   split at h
   ·rename_i a ha
    injection h with h; subst h
    exact ⟨a, .val hw f a (by rw [hc]; rfl) ha⟩
   ·cases h
  ·rename_i g hc; exact rdc g (by rw [hc]; rfl) h
  ·rename_i f g hc
   split at h
   ·rename_i a ha
    injection h with h; subst h
    exact ⟨a, .val hw f a (by rw [hc]; rfl) ha⟩
   ·exact rdc g (by rw [hc]; rfl) h
  ·rename_i f hc
   unfold dNew at h
   split at h
   ·rename_i p hp
    split at h
    ·rename_i b hb
     injection h with h; subst h
     exact ⟨p.1, .new hw f p.1 p.2 b hc hp hb⟩
    ·cases h
   ·cases h
  ·rename_i g hc; exact wrc g (by rw [hc]; rfl) h
  ·rename_i f g hc
   split at h
   ·rename_i a ha
    injection h with h; subst h
    exact ⟨a, .val hw f a (by rw [hc]; rfl) ha⟩
   ·exact wrc g (by rw [hc]; rfl) h
  ·cases h
  ·cases h
/-- the whole row of them -/
theorem drawn_chain {E : Env} {F : CallF} {ops : Array Oper} {B : Array Nat} {k0 : Nat} : ∀ (l : List Oper) (i : Nat) (d d' : Dr), drawnOps E F ops B k0 i l d = .ok d' →
  ∃ (ds : Nat → Dr) (val : Nat → AV), ds i = d ∧ ds (i + l.length) = d' ∧ ∀ (j : Nat) (o : Oper), l[j]? = some o → DStep E F ops B k0 (i + j) o (ds (i + j)) (ds (i + j + 1)) (val (i + j))
 | [], i, d, d', h => by
  injection h with h; subst h
  exact ⟨fun _ => d, fun _ => .tuple [], rfl, rfl, fun j o hj => by simp at hj⟩
 | o :: os, i, d, d', h => by
  simp only [drawnOps] at h
  split at h
  ·rename_i d1 hd1
   obtain ⟨a, ha⟩ := drawnOp_step hd1
   obtain ⟨ds, val, h1, h2, h3⟩ := drawn_chain os (i + 1) d1 d' h
   refine ⟨fun k => if k = i then d else ds k, fun k => if k = i then a else val k, by simp, ?_, fun j o' hj => ?_⟩
   ·simp only [List.length_cons]
    rw [if_neg (by omega)]
    rw [show i + (os.length + 1) = i + 1 + os.length by omega]; exact h2
   ·cases j with
    | zero =>
     simp at hj; subst hj
     simp only [Nat.add_zero, if_true]
     rw [if_neg (by omega), h1]
     exact ha
    | succ j =>
     have := h3 j o' (by simpa using hj)
     have e1 : i + (j + 1) = i + 1 + j := by omega
     have n1 : ¬ i + 1 + j = i := by omega
     have n2 : ¬ i + 1 + j + 1 = i := by omega
     simp only [e1, n1, n2, if_false]
     exact this
  ·cases h
end Go.Ev
namespace Go.Ev
/-- a block comes that no name of the memory's has; its name was kept -/
theorem HRel.push {ι : Io} {s : St} {w : World} (H : HRel ι s w) {k : Nat} (hk : ι k = none) (hlt : k < s.nx) (l : Loc) (ob : Obj) : HRel (ι.up k l) s { w with heap := w.heap.push ob } := by
 have hsub := Io.up_sub (l := l) hk
 have hne : ∀ q b, s.h.get q = some b → q ≠ k := by
  intro q b hq e
  obtain ⟨lq, _, h1, _⟩ := H.blk q b hq
  rw [e, hk] at h1; cases h1
 refine ⟨fun q b hq => ?_, fun q q' b b' lq lq' hq hq' hl hl' e => ?_, fun q hq => ?_⟩
 ·obtain ⟨lq, oq, h1, h2, h3⟩ := H.blk q b hq
  have hlt := (Array.getElem?_eq_some_iff.1 h2).1
  exact ⟨lq, oq, hsub _ _ h1, by simp [Array.getElem?_push, Nat.ne_of_lt hlt, h2], h3.sub hsub⟩
 ·simp only [Io.up, if_neg (hne q b hq)] at hl
  simp only [Io.up, if_neg (hne q' b' hq')] at hl'
  exact H.inj q q' b b' lq lq' hq hq' hl hl' e
 ·simp only [Io.up, if_neg (show q ≠ k by omega)]
  exact H.fresh q hq
/-- a block that is laid and has its name, and is not yet in memory -/
def Pend (ι : Io) (s : St) (w : World) (p : Nat × Nat × ABlk) : Prop :=
 ∃ l ob, ι p.2.1 = some l ∧ w.heap[l.b]? = some ob ∧ BRel ι l p.2.2 ob ∧ ∀ k b lk, s.h.get k = some b → ι k = some lk → lk.b ≠ l.b
theorem adopt_nx (m : Nat) : ∀ (ps : List (Nat × Nat × ABlk)) (s : St), (adopt m ps s).2.nx = s.nx
 | [], s => rfl
 | (i, k, b) :: r, s => by
  have ih := adopt_nx m r s
  simp only [adopt]
  cases h : m.testBit i <;> simp [ih, St.put_nx]
theorem adopt_fst (m : Nat) : ∀ (ps : List (Nat × Nat × ABlk)) (s : St), (adopt m ps s).1 = ps.filter fun p => !m.testBit p.1
 | [], s => rfl
 | (i, k, b) :: r, s => by
  have ih := adopt_fst m r s
  simp only [adopt, List.filter_cons]
  cases h : m.testBit i <;> simp [ih]
theorem adopt_get (m : Nat) : ∀ (ps : List (Nat × Nat × ABlk)) (s : St) (q : Nat) (b : ABlk), (adopt m ps s).2.h.get q = some b → s.h.get q = some b ∨ ∃ p ∈ ps, m.testBit p.1 = true ∧ q = p.2.1 ∧ b = p.2.2
 | [], s, q, b, h => .inl h
 | (i, k, bk) :: r, s, q, b, h => by
  simp only [adopt] at h
  cases hm : m.testBit i with
  | false =>
   simp only [hm, cond_false] at h
   rcases adopt_get m r s q b h with h1 | ⟨p, h1, h2⟩
   ·exact .inl h1
   ·exact .inr ⟨p, List.mem_cons_of_mem _ h1, h2⟩
  | true =>
   simp only [hm, cond_true] at h
   rw [St.put_get] at h
   by_cases e : q = k
   ·rw [if_pos e] at h
    injection h with h
    exact .inr ⟨(i, k, bk), List.mem_cons_self, hm, e, h.symm⟩
   ·rw [if_neg e] at h
    rcases adopt_get m r s q b h with h1 | ⟨p, h1, h2⟩
    ·exact .inl h1
    ·exact .inr ⟨p, List.mem_cons_of_mem _ h1, h2⟩
theorem adopt_rel {ι : Io} {s : St} {w : World} (H : HRel ι s w) (m : Nat) (ps : List (Nat × Nat × ABlk)) (hp : ∀ p ∈ ps, m.testBit p.1 = true → Pend ι s w p)
  (hd : ∀ p ∈ ps, ∀ q ∈ ps, m.testBit p.1 = true → m.testBit q.1 = true → ∀ lp lq, ι p.2.1 = some lp → ι q.2.1 = some lq → lp.b = lq.b → p.2.1 = q.2.1) : HRel ι (adopt m ps s).2 w := by
 refine ⟨fun q b hq => ?_, fun q q' b b' lq lq' hq hq' hl hl' e => ?_, fun q hq => ?_⟩
 ·rcases adopt_get m ps s q b hq with h | ⟨p, h1, h2, h3, h4⟩
  ·exact H.blk q b h
  ·obtain ⟨l, ob, g1, g2, g3, _⟩ := hp p h1 h2
   subst h3 h4
   exact ⟨l, ob, g1, g2, g3⟩
 ·rcases adopt_get m ps s q b hq with h | ⟨p, h1, h2, h3, h4⟩
  ·rcases adopt_get m ps s q' b' hq' with h' | ⟨p', h1', h2', h3', h4'⟩
   ·exact H.inj q q' b b' lq lq' h h' hl hl' e
   ·exfalso
    obtain ⟨l, ob, g1, g2, g3, g4⟩ := hp p' h1' h2'
    subst h3'
    rw [g1] at hl'; injection hl' with hl'; subst hl'
    exact g4 q b lq h hl e
  ·rcases adopt_get m ps s q' b' hq' with h' | ⟨p', h1', h2', h3', h4'⟩
   ·exfalso
    obtain ⟨l, ob, g1, g2, g3, g4⟩ := hp p h1 h2
    subst h3
    rw [g1] at hl; injection hl with hl; subst hl
    exact g4 q' b' lq' h' hl' e.symm
   ·subst h3 h3'
    exact hd p h1 p' h1' h2 h2' lq lq' hl hl' e
 ·rw [adopt_nx] at hq; exact H.fresh q hq
/-! the slots that an operation looks at -/
theorem pickF_get (fr : Fr) : ∀ (l : List Operand) (t : T AV) (k : Nat) (v : AV), (pickF fr l t).get k = some v → (fr.t.get k = some v ∧ Operand.tmp k ∈ l) ∨ t.get k = some v
 | [], t, k, v, h => .inr h
 | .tmp q :: r, t, k, v, h => by
  simp only [pickF] at h
  rcases pickF_get fr r _ k v h with ⟨h1, h2⟩ | h1
  ·exact .inl ⟨h1, List.mem_cons_of_mem _ h2⟩
  ·cases hg : fr.t.get q with
   | none => rw [hg] at h1; exact .inr h1
   | some u =>
    rw [hg] at h1
    simp only [T.get_set] at h1
    by_cases e : k = q
    ·subst e
     rw [if_pos rfl] at h1
     exact .inl ⟨by rw [hg]; exact h1, List.mem_cons_self⟩
    ·rw [if_neg e] at h1; exact .inr h1
 | .const c :: r, t, k, v, h => by
  simp only [pickF] at h
  rcases pickF_get fr r _ k v h with ⟨h1, h2⟩ | h1
  ·exact .inl ⟨h1, List.mem_cons_of_mem _ h2⟩
  ·exact .inr h1
 | .global c :: r, t, k, v, h => by
  simp only [pickF] at h
  rcases pickF_get fr r _ k v h with ⟨h1, h2⟩ | h1
  ·exact .inl ⟨h1, List.mem_cons_of_mem _ h2⟩
  ·exact .inr h1
 | .func c :: r, t, k, v, h => by
  simp only [pickF] at h
  rcases pickF_get fr r _ k v h with ⟨h1, h2⟩ | h1
  ·exact .inl ⟨h1, List.mem_cons_of_mem _ h2⟩
  ·exact .inr h1
theorem restr_rel {ι : Io} {n : Nat} {fr : Fr} {o : Oper} {a : Act} (h : ∀ t v, Operand.tmp t ∈ o.op.operands.toList → fr.t.get t = some v → rel ι v (a.tmps.getD t undef)) (hn : a.tmps.size = n) : FRel ι n (restr fr o) { a with defers := [] } where
 slot := fun t v ht => by
  rcases pickF_get fr _ _ t v ht with ⟨h1, h2⟩ | h1
  ·exact h t v h2 h1
  ·simp [T.get_leaf] at h1
 size := hn
 ds := rfl
end Go.Ev
namespace Go.Ev
section
variable {E : Env} {F : CallF} {ops : Array Oper} {B : Array Nat} {k0 : Nat} {ds : Nat → Dr} {val : Nat → AV}
/-- the row of a region, in the order of the text -/
def Chain (E : Env) (F : CallF) (ops : Array Oper) (B : Array Nat) (k0 : Nat) (ds : Nat → Dr) (val : Nat → AV) : Prop :=
 ∀ (j : Nat) (o : Oper), ops[j]? = some o → DStep E F ops B k0 j o (ds j) (ds (j + 1)) (val j)
/-- the j-th one wrote -/
def WrAt (ds : Nat → Dr) (j : Nat) : Prop := (ds (j + 1)).done = j :: (ds j).done
theorem DStep.fr {i : Nat} {o : Oper} {d d' : Dr} {a : AV} (h : DStep E F ops B k0 i o d d' a) : d'.fr = d.fr.put o.dst a := by cases h <;> rfl
theorem DStep.quiet {i : Nat} {o : Oper} {d d' : Dr} {a : AV} (h : DStep E F ops B k0 i o d d' a) : d'.done = i :: d.done ∨ d'.done = d.done ∧ d'.s = d.s ∧ d'.hist = d.hist := by
 cases h
 ·exact .inr ⟨rfl, rfl, rfl⟩
 ·exact .inr ⟨rfl, rfl, rfl⟩
 ·exact .inr ⟨rfl, rfl, rfl⟩
 ·exact .inr ⟨rfl, rfl, rfl⟩
 ·exact .inl rfl
theorem DStep.wrote {i : Nat} {o : Oper} {d d' : Dr} {a : AV} (h : DStep E F ops B k0 i o d d' a) (hw : d'.done = i :: d.done) : d'.hist = (i + 1, d'.s) :: d.hist ∧ d.done.all ((B.getD i 0).testBit ·) = true := by
 have hne : ∀ l : List Nat, l ≠ i :: l := fun l e => by
  have := congrArg List.length e
  simp at this
 cases h with
 | skip hw' => exact absurd hw (hne _)
 | val hw' => exact absurd hw (hne _)
 | rd hw' => exact absurd hw (hne _)
 | new hw' => exact absurd hw (hne _)
 | wr hw' g a s' hc hall h => exact ⟨rfl, hall⟩
theorem chain_done (hch : Chain E F ops B k0 ds val) (h0 : (ds 0).done = []) : ∀ i, i ≤ ops.size → ∀ k, k ∈ (ds i).done ↔ k < i ∧ WrAt ds k := by
 intro i
 induction i with
 | zero => intro _ k; rw [h0]; simp
 | succ i ih =>
  intro hi k
  have hs := hch i _ (Array.getElem?_eq_getElem (show i < ops.size by omega))
  have ih := ih (by omega) k
  rcases hs.quiet with h | ⟨h, _⟩
  ·rw [h, List.mem_cons, ih]
   constructor
   ·rintro (rfl | ⟨h1, h2⟩)
    ·exact ⟨by omega, h⟩
    ·exact ⟨by omega, h2⟩
   ·rintro ⟨h1, h2⟩
    by_cases e : k = i
    ·exact .inl e
    ·exact .inr ⟨by omega, h2⟩
  ·rw [h, ih]
   constructor
   ·rintro ⟨h1, h2⟩; exact ⟨by omega, h2⟩
   ·rintro ⟨h1, h2⟩
    refine ⟨?_, h2⟩
    by_cases e : k = i
    ·exfalso
     subst e
     unfold WrAt at h2
     rw [h] at h2
     have := congrArg List.length h2
     simp at this
    ·omega
/-- a writer waits for all that wrote ahead of it -/
theorem chain_row (hch : Chain E F ops B k0 ds val) (h0 : (ds 0).done = []) {i k : Nat} (hi : i < ops.size) (hw : WrAt ds i) (hk : k < i) (hwk : WrAt ds k) : (B.getD i 0).testBit k = true := by
 have hs := hch i _ (Array.getElem?_eq_getElem hi)
 have hall := (hs.wrote hw).2
 have hm := (chain_done hch h0 i (by omega) k).2 ⟨hk, hwk⟩
 exact List.all_eq_true.1 hall k hm
theorem chain_same (hch : Chain E F ops B k0 ds val) : ∀ (n a : Nat), a + n ≤ ops.size → (∀ k, a ≤ k → k < a + n → ¬ WrAt ds k) → (ds (a + n)).s = (ds a).s := by
 intro n
 induction n with
 | zero => intro a _ _; rfl
 | succ n ih =>
  intro a ha hn
  have hs := hch (a + n) _ (Array.getElem?_eq_getElem (show a + n < ops.size by omega))
  rcases hs.quiet with h | ⟨_, h, _⟩
  ·exact absurd h (hn (a + n) (by omega) (by omega))
  ·rw [show a + (n + 1) = a + n + 1 by omega, h]
   exact ih a (by omega) (fun k h1 h2 => hn k h1 (by omega))
theorem chain_hist (hch : Chain E F ops B k0 ds val) (h0 : (ds 0).hist = [(0, (ds 0).s)]) : ∀ i, i ≤ ops.size → (0, (ds 0).s) ∈ (ds i).hist ∧ ∀ k, k < i → WrAt ds k → (k + 1, (ds (k + 1)).s) ∈ (ds i).hist := by
 intro i
 induction i with
 | zero => intro _; exact ⟨by rw [h0]; simp, fun k hk => by omega⟩
 | succ i ih =>
  intro hi
  have hs := hch i _ (Array.getElem?_eq_getElem (show i < ops.size by omega))
  obtain ⟨h1, h2⟩ := ih (by omega)
  rcases hs.quiet with h | ⟨h, _, h'⟩
  ·have hh := (hs.wrote h).1
   rw [hh]
   refine ⟨List.mem_cons_of_mem _ h1, fun k hk hw => ?_⟩
   by_cases e : k = i
   ·subst e; exact List.mem_cons_self
   ·exact List.mem_cons_of_mem _ (h2 k (by omega) hw)
  ·rw [h']
   refine ⟨h1, fun k hk hw => h2 k ?_ hw⟩
   by_cases e : k = i
   ·exfalso
    subst e
    unfold WrAt at hw
    rw [h] at hw
    have := congrArg List.length hw
    simp at this
   ·omega
/-- a slot, on the way: what its writer gave, or what was there at first -/
theorem chain_slot (hch : Chain E F ops B k0 ds val) (hu : ∀ i j, i < ops.size → j < ops.size → (ops[i]?).bind (·.dst) = (ops[j]?).bind (·.dst) → ((ops[i]?).bind (·.dst)).isSome → i = j) :
  ∀ i, i ≤ ops.size → ∀ t, (∃ j, j < i ∧ (ops[j]?).bind (·.dst) = some t ∧ (ds i).fr.t.get t = some (val j)) ∨ (∀ j, j < i → (ops[j]?).bind (·.dst) ≠ some t) ∧ (ds i).fr.t.get t = (ds 0).fr.t.get t := by
 intro i
 induction i with
 | zero => intro _ t; exact .inr ⟨fun j hj => by omega, rfl⟩
 | succ i ih =>
  intro hi t
  have hs := hch i _ (Array.getElem?_eq_getElem (show i < ops.size by omega))
  have hf := hs.fr
  have hget : ops[i]? = some ops[i] := Array.getElem?_eq_getElem (by omega)
  rw [hf]
  cases hd : ops[i].dst with
  | none =>
   have hfr : (ds i).fr.put none (val i) = (ds i).fr := rfl
   rw [hfr]
   rcases ih (by omega) t with ⟨j, h1, h2, h3⟩ | ⟨h1, h2⟩
   ·exact .inl ⟨j, by omega, h2, h3⟩
   ·refine .inr ⟨fun j hj => ?_, h2⟩
    by_cases e : j = i
    ·subst e; rw [hget]; simp [hd]
    ·exact h1 j (by omega)
  | some d =>
   simp only [Fr.put, T.get_set]
   by_cases e : t = d
   ·subst e
    rw [if_pos rfl]
    exact .inl ⟨i, by omega, by rw [hget]; simpa using hd, rfl⟩
   ·rw [if_neg e]
    rcases ih (by omega) t with ⟨j, h1, h2, h3⟩ | ⟨h1, h2⟩
    ·exact .inl ⟨j, by omega, h2, h3⟩
    ·refine .inr ⟨fun j hj => ?_, h2⟩
     by_cases e2 : j = i
     ·subst e2; rw [hget]; simp [hd]; exact fun h => e h.symm
     ·exact h1 j (by omega)
end
end Go.Ev
namespace Go.Ev
theorem before_lt (ops : Array Oper) (hf : fwdB ops = true) : ∀ j, j < ops.size → ∀ i, ((Region.before ops).getD j 0).testBit i = true → i < j := by
 intro j
 induction j using Nat.strongRecOn with
 | _ j ih =>
  intro hj i hi
  obtain ⟨o, ho⟩ : ∃ o, ops[j]? = some o := ⟨ops[j], Array.getElem?_eq_getElem hj⟩
  obtain ⟨b, b1, b2⟩ := before_bit ops j o ho i hi
  have hlt : b < j := by
   have h1 := List.all_eq_true.1 hf j (List.mem_range.2 hj)
   have h2 := List.all_eq_true.1 h1 b b1
   simpa using h2
  rcases b2 with rfl | b2
  ·exact hlt
  ·have := ih b hlt (by omega) i b2; omega
section
variable {E : Env} {F : CallF} {ops : Array Oper} {k0 : Nat} {ds : Nat → Dr} {val : Nat → AV}
def dstAt (ops : Array Oper) (j : Nat) : Option Tmp := (ops[j]?).bind (·.dst)
/-- what the slots hold when L is done -/
def Slots (ι : Io) (ops : Array Oper) (fr : Fr) (val : Nat → AV) (L : Nat → Bool) (x : Nat → Value) : Prop :=
 (∀ t v, (∀ j, j < ops.size → dstAt ops j = some t → L j = false) → fr.t.get t = some v → rel ι v (x t)) ∧
 ∀ j t, j < ops.size → dstAt ops j = some t → L j = true → rel ι (val j) (x t)
/-- behind an operation -/
theorem slots_put {ι ι' : Io} (hsub : Sub ι ι') (hu : ∀ i j, i < ops.size → j < ops.size → dstAt ops i = dstAt ops j → (dstAt ops i).isSome → i = j)
  {fr : Fr} {L : Nat → Bool} {x : Nat → Value} (hS : Slots ι ops fr val L x) {i : Nat} {o : Oper} (ho : ops[i]? = some o) {y : Value} (hy : rel ι' (val i) y) :
  Slots ι' ops fr val (fun k => k == i || L k) (putX x o.dst y) := by
 have hi : i < ops.size := (Array.getElem?_eq_some_iff.1 ho).1
 have hdi : dstAt ops i = o.dst := by unfold dstAt; rw [ho]; rfl
 refine ⟨fun t v hno hv => ?_, fun j t hj hd hLj => ?_⟩
 ·have hne : o.dst ≠ some t := by
   intro e
   have := hno i hi (hdi.trans e)
   simp at this
  simp only [putX, if_neg hne]
  exact (hS.1 t v (fun j hj hd => by
   have := hno j hj hd
   rw [Bool.or_eq_false_iff] at this
   exact this.2) hv).sub hsub
 ·by_cases e : o.dst = some t
  ·have : j = i := hu j i hj hi (by rw [hd, hdi, e]) (by rw [hd]; rfl)
   subst this
   simp only [putX, if_pos e]
   exact hy
  ·simp only [putX, if_neg e]
   have hji : j ≠ i := by
    intro e2; subst e2
    exact e (hdi.symm.trans hd)
   have hLj' : L j = true := by
    rw [Bool.or_eq_true] at hLj
    rcases hLj with h | h
    ·simp at h; exact absurd h hji
    ·exact h
   exact (hS.2 j t hj hd hLj').sub hsub
end
end Go.Ev
namespace Go.Ev
section
variable {E : Env} {F : CallF} {ops : Array Oper} {B : Array Nat} {k0 : Nat} {ds : Nat → Dr} {val : Nat → AV}
def NewAt (k0 : Nat) (ds : Nat → Dr) (j : Nat) (b : ABlk) : Prop := (ds (j + 1)).pend = (j, k0 + j, b) :: (ds j).pend
/-- what is pending, on the way -/
theorem chain_pend (hch : Chain E F ops B k0 ds val) (h0 : (ds 0).pend = []) : ∀ i, i ≤ ops.size → ∀ p ∈ (ds i).pend, ∃ j b, j < i ∧ p = (j, k0 + j, b) ∧ NewAt k0 ds j b ∧ ∀ k, k < i → WrAt ds k → j < k → (B.getD k 0).testBit j = false := by
 intro i
 induction i with
 | zero => intro _ p hp; rw [h0] at hp; cases hp
 | succ i ih =>
  intro hi p hp
  have ih := ih (by omega)
  have hs := hch i _ (Array.getElem?_eq_getElem (show i < ops.size by omega))
  -- the same list, no writer
  have same : (ds (i + 1)).done = (ds i).done → p ∈ (ds i).pend → ∃ j b, j < i + 1 ∧ p = (j, k0 + j, b) ∧ NewAt k0 ds j b ∧ ∀ k, k < i + 1 → WrAt ds k → j < k → (B.getD k 0).testBit j = false := by
   intro hd hp
   obtain ⟨j, b, h1, h2, h3, h4⟩ := ih p hp
   refine ⟨j, b, by omega, h2, h3, fun k hk hw hjk => ?_⟩
   by_cases e : k = i
   ·exfalso
    subst e
    unfold WrAt at hw
    rw [hd] at hw
    have := congrArg List.length hw
    simp at this
   ·exact h4 k (by omega) hw hjk
  generalize hd1 : ds (i + 1) = d1 at *
  generalize hv1 : val i = v1 at hs
  cases hs with
  | skip hw => exact same rfl hp
  | val hw => exact same rfl hp
  | rd hw => exact same rfl hp
  | new hw f a1 s' b hc h hb =>
   rcases List.mem_cons.1 hp with rfl | hp
   ·refine ⟨i, b, by omega, rfl, ?_, fun k hk hw hjk => by omega⟩
    unfold NewAt; rw [hd1]
   ·exact same rfl hp
  | wr hw g a1 s' hc hall h =>
   have hp : p ∈ (adopt (B.getD i 0) (ds i).pend (ds i).s).1 := hp
   rw [adopt_fst, List.mem_filter] at hp
   obtain ⟨j, b, h1, h2, h3, h4⟩ := ih p hp.1
   refine ⟨j, b, by omega, h2, h3, fun k hk hw hjk => ?_⟩
   by_cases e : k = i
   ·subst e
    have := hp.2
    rw [h2] at this
    simpa using this
   ·exact h4 k (by omega) hw hjk
/-- the memory half: c: the writers below it are done -/
structure MemJ (ι0 : Io) (s0 : St) (w0 : World) (ops : Array Oper) (B : Array Nat) (k0 : Nat) (ds : Nat → Dr) (L : Nat → Bool) (w : World) (c : Nat) (ι : Io) : Prop where
 cL : ∀ k, k < ops.size → WrAt ds k → (L k = true ↔ k < c)
 cN : c ≤ ops.size
 nx : k0 + ops.size ≤ (ds c).s.nx
 h : HRel ι (ds c).s w
 sub : Sub ι0 ι
 keep : ∀ k, k < k0 → ι k = ι0 k
 size : w0.heap.size ≤ w.heap.size
 old : ∀ b, b < w0.heap.size → (∀ k l bb, s0.h.get k = some bb → ι0 k = some l → l.b ≠ b) → w.heap[b]? = w0.heap[b]?
 img : ∀ k l bb, (ds c).s.h.get k = some bb → ι k = some l → w0.heap.size ≤ l.b ∨ ∃ k1 l1 b1, s0.h.get k1 = some b1 ∧ ι0 k1 = some l1 ∧ l1.b = l.b
 os : w.os = w0.os
 tape : w.tape = w0.tape
 output : w.output = w0.output
 none : ∀ j, j < ops.size → L j = false → ι (k0 + j) = none
 pend : ∀ j b, j < ops.size → NewAt k0 ds j b → L j = true → (∀ k, k < ops.size → WrAt ds k → L k = true → j < k → (B.getD k 0).testBit j = false) → Pend ι (ds c).s w (j, k0 + j, b) ∧ ∀ l, ι (k0 + j) = some l → w0.heap.size ≤ l.b
 dist : ∀ j j' b b', j < ops.size → j' < ops.size → NewAt k0 ds j b → NewAt k0 ds j' b' → L j = true → L j' = true →
  (∀ k, k < ops.size → WrAt ds k → L k = true → j < k → (B.getD k 0).testBit j = false) → (∀ k, k < ops.size → WrAt ds k → L k = true → j' < k → (B.getD k 0).testBit j' = false) →
  ∀ l l', ι (k0 + j) = some l → ι (k0 + j') = some l' → l.b = l'.b → j = j'
end
end Go.Ev
namespace Go.Ev
section
variable {E : Env} {F : CallF} {ops : Array Oper} {k0 : Nat} {ds : Nat → Dr} {val : Nat → AV}
theorem new_not_wr {B : Array Nat} (hch : Chain E F ops B k0 ds val) {i : Nat} (hi : i < ops.size) (hw : WrAt ds i) (b : ABlk) : ¬ NewAt k0 ds i b := by
 intro hn
 have hs := hch i _ (Array.getElem?_eq_getElem hi)
 unfold WrAt at hw
 unfold NewAt at hn
 generalize ds (i + 1) = d1 at *
 generalize val i = v1 at hs
 have hne : ∀ l : List Nat, l ≠ i :: l := fun l e => by
  have := congrArg List.length e
  simp at this
 cases hs with
 | skip hw' => exact hne _ hw
 | val hw' => exact hne _ hw
 | rd hw' => exact hne _ hw
 | new hw' => exact hne _ hw
 | wr hw' g a1 s' hc hall h =>
  have hn : (adopt (B.getD i 0) (ds i).pend (ds i).s).1 = (i, k0 + i, b) :: (ds i).pend := hn
  rw [adopt_fst] at hn
  have := congrArg List.length hn
  have h2 := List.length_filter_le (fun p => !(B.getD i 0).testBit p.1) (ds i).pend
  rw [List.length_cons] at this
  omega
variable {ι0 : Io} {s0 : St} {w0 : World} {L : Nat → Bool} {w : World} {c : Nat} {ι : Io}
/-- a writer's turn: what is done is what wrote ahead of it -/
theorem turn (hch : Chain E F ops (Region.before ops) k0 ds val) (hf : fwdB ops = true) (h0 : (ds 0).done = []) (J : MemJ ι0 s0 w0 ops (Region.before ops) k0 ds L w c ι)
  (hL : ∀ k, k < ops.size → L k = true → ∀ b ∈ binders ops k, L b = true) {i : Nat} (hi : i < ops.size) (hLi : L i = false) (hb : ∀ b ∈ binders ops i, L b = true) (hw : WrAt ds i) :
  (ds c).s = (ds i).s ∧ ∀ k, k < ops.size → WrAt ds k → (L k = true ↔ k < i) := by
 have key : ∀ k, k < ops.size → WrAt ds k → (L k = true ↔ k < i) := by
  intro k hk hwk
  constructor
  ·intro hLk
   rcases Nat.lt_trichotomy k i with h | h | h
   ·exact h
   ·subst h; rw [hLi] at hLk; cases hLk
   ·exfalso
    have := before_closed ops hf L hL k hk hLk i (chain_row hch h0 hk hwk h hw)
    rw [hLi] at this; cases this
  ·intro hlt
   exact before_done ops hf L hL i hi hb k (chain_row hch h0 hi hw hlt hwk)
 refine ⟨?_, key⟩
 rcases Nat.le_total c i with h | h
 ·have := chain_same hch (i - c) c (by omega) (fun k h1 h2 hwk => by
   have hk : k < ops.size := by omega
   have := (J.cL k hk hwk).1 ((key k hk hwk).2 (by omega))
   omega)
  rw [show c + (i - c) = i by omega] at this
  exact this.symm
 ·have := chain_same hch (c - i) i (by have := J.cN; omega) (fun k h1 h2 hwk => by
   have hk : k < ops.size := by have := J.cN; omega
   have := (key k hk hwk).1 ((J.cL k hk hwk).2 (by omega))
   omega)
  rw [show i + (c - i) = c by omega] at this
  exact this
end
end Go.Ev
namespace Go.Ev
section
variable {E : Env} {F : CallF} {ops : Array Oper} {k0 : Nat} {ds : Nat → Dr} {val : Nat → AV} {ι0 : Io} {s0 : St} {w0 : World} {L : Nat → Bool} {w : World} {c : Nat} {ι : Io}
/-- the memory that a writer finds -/
theorem turn_mem (hch : Chain E F ops (Region.before ops) k0 ds val) (hf : fwdB ops = true) (h0 : (ds 0).done = []) (h0p : (ds 0).pend = []) (J : MemJ ι0 s0 w0 ops (Region.before ops) k0 ds L w c ι)
  (hL : ∀ k, k < ops.size → L k = true → ∀ b ∈ binders ops k, L b = true) {i : Nat} (hi : i < ops.size) (hLi : L i = false) (hb : ∀ b ∈ binders ops i, L b = true) (hw : WrAt ds i) :
  HRel ι (adopt ((Region.before ops).getD i 0) (ds i).pend (ds i).s).2 w ∧
  ∀ k b, (adopt ((Region.before ops).getD i 0) (ds i).pend (ds i).s).2.h.get k = some b → (ds c).s.h.get k = some b ∨ ∃ j, j < i ∧ k = k0 + j ∧ NewAt k0 ds j b ∧ ((Region.before ops).getD i 0).testBit j = true ∧ L j = true ∧
   ∀ q, q < ops.size → WrAt ds q → L q = true → j < q → ((Region.before ops).getD q 0).testBit j = false := by
 obtain ⟨hs, hk⟩ := turn hch hf h0 J hL hi hLi hb hw
 have hp : ∀ p ∈ (ds i).pend, ((Region.before ops).getD i 0).testBit p.1 = true → ∃ j b, j < i ∧ p = (j, k0 + j, b) ∧ NewAt k0 ds j b ∧ L j = true ∧ ∀ q, q < ops.size → WrAt ds q → L q = true → j < q → ((Region.before ops).getD q 0).testBit j = false := by
  intro p hp hbit
  obtain ⟨j, b, h1, h2, h3, h4⟩ := chain_pend hch h0p i (by omega) p hp
  refine ⟨j, b, h1, h2, h3, ?_, fun q hq hwq hLq hjq => h4 q ((hk q hq hwq).1 hLq) hwq hjq⟩
  rw [h2] at hbit
  exact before_done ops hf L hL i hi hb j hbit
 refine ⟨adopt_rel (by rw [← hs]; exact J.h) _ _ (fun p hpm hbit => ?_) (fun p hpm q hqm hbp hbq lp lq hlp hlq e => ?_), fun k b hkb => ?_⟩
 ·obtain ⟨j, b, h1, h2, h3, h4, h5⟩ := hp p hpm hbit
  subst h2
  rw [← hs]
  exact (J.pend j b (by omega) h3 h4 h5).1
 ·obtain ⟨j, b, h1, h2, h3, h4, h5⟩ := hp p hpm hbp
  obtain ⟨j', b', h1', h2', h3', h4', h5'⟩ := hp q hqm hbq
  subst h2 h2'
  have := J.dist j j' b b' (by omega) (by omega) h3 h3' h4 h4' h5 h5' lp lq hlp hlq e
  rw [this]
 ·rcases adopt_get _ _ _ k b hkb with h | ⟨p, h1, h2, h3, h4⟩
  ·left; rw [hs]; exact h
  ·obtain ⟨j, b', g1, g2, g3, g4, g5⟩ := hp p h1 h2
   subst g2
   right
   exact ⟨j, g1, h3, by rw [h4]; exact g3, h2, g4, g5⟩
/-- behind a writer -/
theorem MemJ.wrote (hch : Chain E F ops (Region.before ops) k0 ds val) (hf : fwdB ops = true) (h0 : (ds 0).done = []) (h0p : (ds 0).pend = []) (J : MemJ ι0 s0 w0 ops (Region.before ops) k0 ds L w c ι)
  (hL : ∀ k, k < ops.size → L k = true → ∀ b ∈ binders ops k, L b = true) {i : Nat} (hi : i < ops.size) (hLi : L i = false) (hb : ∀ b ∈ binders ops i, L b = true) (hw : WrAt ds i)
  {ι' : Io} {w' : World} (hst : Stp ι (adopt ((Region.before ops).getD i 0) (ds i).pend (ds i).s).2 w ι' (ds (i + 1)).s w') : MemJ ι0 s0 w0 ops (Region.before ops) k0 ds (fun k => k == i || L k) w' (i + 1) ι' := by
 obtain ⟨hs, hk⟩ := turn hch hf h0 J hL hi hLi hb hw
 obtain ⟨hT, hdom⟩ := turn_mem hch hf h0 h0p J hL hi hLi hb hw
 have hTnx : (adopt ((Region.before ops).getD i 0) (ds i).pend (ds i).s).2.nx = (ds i).s.nx := adopt_nx _ _ _
 have hnx : k0 + ops.size ≤ (ds i).s.nx := by rw [← hs]; exact J.nx
 have hkeep : ∀ j, j < ops.size → ι' (k0 + j) = ι (k0 + j) := fun j hj => hst.keep _ (by rw [hTnx]; omega)
 have himg : ∀ k l bb, (adopt ((Region.before ops).getD i 0) (ds i).pend (ds i).s).2.h.get k = some bb → ι k = some l → w0.heap.size ≤ l.b ∨ ∃ k1 l1 b1, s0.h.get k1 = some b1 ∧ ι0 k1 = some l1 ∧ l1.b = l.b := by
  intro k l bb hkb hl
  rcases hdom k bb hkb with h | ⟨j, h1, h2, h3, h4, h5, h6⟩
  ·exact J.img k l bb h hl
  ·subst h2
   exact .inl ((J.pend j bb (by omega) h3 h5 h6).2 l hl)
 have hor : ∀ j, ((fun k => k == i || L k) j = true) → j = i ∨ L j = true := by
  intro j h
  simp only [Bool.or_eq_true, beq_iff_eq] at h
  exact h
 have hLi' : ∀ q, L q = true → (fun k => k == i || L k) q = true := fun q h => by simp [h]
 have hii : (fun k => k == i || L k) i = true := by simp
 refine ⟨fun k hk' hwk => ?_, by omega, Nat.le_trans (by rw [hTnx]; exact hnx) hst.nx, hst.h, J.sub.trans hst.sub, fun k hkk => ?_, Nat.le_trans J.size hst.size, fun b hbb hn => ?_, fun k l bb hkb hl => ?_,
  hst.os.trans J.os, hst.tape.trans J.tape, hst.output.trans J.output, fun j hj hLj => ?_, fun j b hj hn hLj hno => ?_, fun j j' b b' hj hj' hn hn' hLj hLj' hno hno' l l' hl hl' e => ?_⟩
 ·constructor
  ·intro h
   rcases hor k h with rfl | h
   ·omega
   ·have := (hk k hk' hwk).1 h; omega
  ·intro h
   by_cases e : k = i
   ·subst e; exact hii
   ·exact hLi' k ((hk k hk' hwk).2 (by omega))
 ·rw [hst.keep k (by rw [hTnx]; omega)]; exact J.keep k hkk
 ·rw [hst.old b (Nat.lt_of_lt_of_le hbb J.size) (fun k l bb hkb hl e => ?_)]
  ·exact J.old b hbb hn
  ·rcases himg k l bb hkb hl with h | ⟨k1, l1, b1, g1, g2, g3⟩
   ·omega
   ·exact hn k1 l1 b1 g1 g2 (g3.trans e)
 ·rcases hst.img k l bb hkb hl with h | ⟨k1, l1, b1, g1, g2, g3⟩
  ·exact .inl (Nat.le_trans J.size h)
  ·rcases himg k1 l1 b1 g1 g2 with h | ⟨k2, l2, b2, q1, q2, q3⟩
   ·exact .inl (g3 ▸ h)
   ·exact .inr ⟨k2, l2, b2, q1, q2, q3.trans g3⟩
 ·rw [hkeep j hj]
  refine J.none j hj ?_
  simp only [Bool.or_eq_false_iff] at hLj
  exact hLj.2
 ·rcases hor j hLj with rfl | hLj
  ·exact absurd hn (new_not_wr hch hj hw b)
  ·have hno0 : ∀ k, k < ops.size → WrAt ds k → L k = true → j < k → ((Region.before ops).getD k 0).testBit j = false := fun k h1 h2 h3 h4 => hno k h1 h2 (hLi' k h3) h4
   obtain ⟨⟨l, ob, p1, p2, p3, p4⟩, p5⟩ := J.pend j b hj hn hLj hno0
   have hlt : l.b < w.heap.size := (Array.getElem?_eq_some_iff.1 p2).1
   have hnotT : ∀ k lk bb, (adopt ((Region.before ops).getD i 0) (ds i).pend (ds i).s).2.h.get k = some bb → ι k = some lk → lk.b ≠ l.b := by
    intro k lk bb hkb hlk e
    rcases hdom k bb hkb with h | ⟨j', h1, h2, h3, h4, h5, h6⟩
    ·exact p4 k bb lk h hlk e
    ·subst h2
     have hjj := J.dist j' j bb b (by omega) hj h3 hn h5 hLj h6 hno0 lk l hlk p1 e
     subst hjj
     have := hno i hi hw hii h1
     rw [h4] at this; cases this
   refine ⟨⟨l, ob, hst.sub _ _ p1, ?_, p3.sub hst.sub, fun k bb lk hkb hlk e => ?_⟩, fun l' hl' => ?_⟩
   ·rw [hst.old l.b hlt (fun k lk bb hkb hlk => hnotT k lk bb hkb hlk)]; exact p2
   ·rcases hst.img k lk bb hkb hlk with h | ⟨k1, l1, b1, g1, g2, g3⟩
    ·omega
    ·exact hnotT k1 l1 b1 g1 g2 (g3.trans e)
   ·rw [hkeep j hj] at hl'
    exact p5 l' hl'
 ·rcases hor j hLj with rfl | hLj
  ·exact absurd hn (new_not_wr hch hj hw b)
  ·rcases hor j' hLj' with rfl | hLj'
   ·exact absurd hn' (new_not_wr hch hj' hw b')
   ·rw [hkeep j hj] at hl
    rw [hkeep j' hj'] at hl'
    exact J.dist j j' b b' hj hj' hn hn' hLj hLj' (fun k h1 h2 h3 h4 => hno k h1 h2 (hLi' k h3) h4) (fun k h1 h2 h3 h4 => hno' k h1 h2 (hLi' k h3) h4) l l' hl hl' e
end
end Go.Ev
namespace Go.Ev
section
variable {ops : Array Oper} {B : Array Nat} {k0 : Nat} {ds : Nat → Dr} {ι0 : Io} {s0 : St} {w0 : World} {L : Nat → Bool} {w : World} {c : Nat} {ι : Io}
/-- behind an operation that neither writes nor lays a block -/
theorem MemJ.still (J : MemJ ι0 s0 w0 ops B k0 ds L w c ι) {i : Nat} (hw : ¬ WrAt ds i) (hn : ∀ b, ¬ NewAt k0 ds i b) : MemJ ι0 s0 w0 ops B k0 ds (fun k => k == i || L k) w c ι := by
 have hor : ∀ j, ((fun k => k == i || L k) j = true) → j = i ∨ L j = true := by
  intro j h
  simp only [Bool.or_eq_true, beq_iff_eq] at h
  exact h
 have hLi' : ∀ q, L q = true → (fun k => k == i || L k) q = true := fun q h => by simp [h]
 refine ⟨fun k hk hwk => ⟨fun h => ?_, fun h => hLi' k ((J.cL k hk hwk).2 h)⟩, J.cN, J.nx, J.h, J.sub, J.keep, J.size, J.old, J.img, J.os, J.tape, J.output, fun j hj hLj => J.none j hj ?_, fun j b hj hnj hLj hno => ?_,
  fun j j' b b' hj hj' hnj hnj' hLj hLj' hno hno' => ?_⟩
 ·rcases hor k h with rfl | h
  ·exact absurd hwk hw
  ·exact (J.cL k hk hwk).1 h
 ·simp only [Bool.or_eq_false_iff] at hLj
  exact hLj.2
 ·rcases hor j hLj with rfl | hLj
  ·exact absurd hnj (hn b)
  ·exact J.pend j b hj hnj hLj fun k h1 h2 h3 h4 => hno k h1 h2 (hLi' k h3) h4
 ·rcases hor j hLj with rfl | hLj
  ·exact absurd hnj (hn b)
  ·rcases hor j' hLj' with rfl | hLj'
   ·exact absurd hnj' (hn b')
   ·exact J.dist j j' b b' hj hj' hnj hnj' hLj hLj' (fun k h1 h2 h3 h4 => hno k h1 h2 (hLi' k h3) h4) (fun k h1 h2 h3 h4 => hno' k h1 h2 (hLi' k h3) h4)
/-- behind an operation that lays a block -/
theorem MemJ.laid (J : MemJ ι0 s0 w0 ops B k0 ds L w c ι) {i : Nat} (hi : i < ops.size) (hLi : L i = false) (hw : ¬ WrAt ds i) {b : ABlk} (hn : NewAt k0 ds i b) {n : Nat} {ob : Obj} (hb : BRel ι ⟨w.heap.size, 0, n⟩ b ob) :
  MemJ ι0 s0 w0 ops B k0 ds (fun k => k == i || L k) { w with heap := w.heap.push ob } c (ι.up (k0 + i) ⟨w.heap.size, 0, n⟩) := by
 have hor : ∀ j, ((fun k => k == i || L k) j = true) → j = i ∨ L j = true := by
  intro j h
  simp only [Bool.or_eq_true, beq_iff_eq] at h
  exact h
 have hLi' : ∀ q, L q = true → (fun k => k == i || L k) q = true := fun q h => by simp [h]
 have hnone := J.none i hi hLi
 have hsub := Io.up_sub (l := (⟨w.heap.size, 0, n⟩ : Loc)) hnone
 have hne : ∀ j, L j = true → j ≠ i := fun j h e => by subst e; rw [hLi] at h; cases h
 have hup : ∀ j, j ≠ i → (ι.up (k0 + i) ⟨w.heap.size, 0, n⟩) (k0 + j) = ι (k0 + j) := fun j h => by simp only [Io.up, if_neg (show k0 + j ≠ k0 + i by omega)]
 have hdomne : ∀ q bb, (ds c).s.h.get q = some bb → q ≠ k0 + i := by
  intro q bb hq e
  obtain ⟨lq, _, h1, _⟩ := J.h.blk q bb hq
  rw [e, hnone] at h1; cases h1
 have hnb : ∀ b', NewAt k0 ds i b' → b' = b := by
  intro b' h'
  unfold NewAt at hn h'
  rw [hn] at h'
  simp at h'
  exact h'.symm
 have hlt : ∀ j b', j < ops.size → NewAt k0 ds j b' → L j = true → (∀ k, k < ops.size → WrAt ds k → L k = true → j < k → (B.getD k 0).testBit j = false) → ∀ l, ι (k0 + j) = some l → l.b < w.heap.size := by
  intro j b' hj hnj hLj hno l hl
  obtain ⟨⟨l', ob', p1, p2, _⟩, _⟩ := J.pend j b' hj hnj hLj hno
  rw [hl] at p1; injection p1 with p1; subst p1
  exact (Array.getElem?_eq_some_iff.1 p2).1
 refine ⟨fun k hk hwk => ⟨fun h => ?_, fun h => hLi' k ((J.cL k hk hwk).2 h)⟩, J.cN, J.nx, J.h.push hnone (by have := J.nx; omega) _ _, J.sub.trans hsub, fun k hk => ?_, by simp; have := J.size; omega, fun q hq hno => ?_, fun k l bb hk hl => ?_,
  J.os, J.tape, J.output, fun j hj hLj => ?_, fun j b' hj hnj hLj hno => ?_, fun j j' b1 b2 hj hj' hnj hnj' hLj hLj' hno hno' l l' hl hl' e => ?_⟩
 ·rcases hor k h with rfl | h
  ·exact absurd hwk hw
  ·exact (J.cL k hk hwk).1 h
 ·simp only [Io.up, if_neg (show k ≠ k0 + i by omega)]
  exact J.keep k hk
 ·have := J.size
  rw [← J.old q hq hno]
  simp [Array.getElem?_push, Nat.ne_of_lt (show q < w.heap.size by omega)]
 ·simp only [Io.up, if_neg (hdomne k bb hk)] at hl
  exact J.img k l bb hk hl
 ·simp only [Bool.or_eq_false_iff, beq_eq_false_iff_ne] at hLj
  rw [hup j hLj.1]
  exact J.none j hj hLj.2
 ·rcases hor j hLj with rfl | hLj
  ·have := hnb b' hnj
   subst this
   refine ⟨⟨_, ob, Io.up_self, by simp, hb.sub hsub, fun k bb lk hk hlk => ?_⟩, fun l hl => ?_⟩
   ·simp only [Io.up, if_neg (hdomne k bb hk)] at hlk
    have := J.h.lt hk hlk
    show lk.b ≠ w.heap.size
    omega
   ·rw [Io.up_self] at hl; injection hl with hl; subst hl
    exact J.size
  ·have hno0 : ∀ k, k < ops.size → WrAt ds k → L k = true → j < k → (B.getD k 0).testBit j = false := fun k h1 h2 h3 h4 => hno k h1 h2 (hLi' k h3) h4
   obtain ⟨⟨l, ob', p1, p2, p3, p4⟩, p5⟩ := J.pend j b' hj hnj hLj hno0
   have hl' := (Array.getElem?_eq_some_iff.1 p2).1
   refine ⟨⟨l, ob', hsub _ _ p1, by simp [Array.getElem?_push, Nat.ne_of_lt hl', p2], p3.sub hsub, fun k bb lk hk hlk => ?_⟩, fun l2 hl2 => ?_⟩
   ·simp only [Io.up, if_neg (hdomne k bb hk)] at hlk
    exact p4 k bb lk hk hlk
   ·rw [hup j (hne j hLj)] at hl2
    exact p5 l2 hl2
 ·rcases hor j hLj with rfl | hLa
  ·rcases hor j' hLj' with rfl | hLb
   ·rfl
   ·exfalso
    rw [Io.up_self] at hl; injection hl with hl; subst hl
    rw [hup j' (hne j' hLb)] at hl'
    have := hlt j' b2 hj' hnj' hLb (fun k h1 h2 h3 h4 => hno' k h1 h2 (hLi' k h3) h4) l' hl'
    have e : w.heap.size = l'.b := e
    omega
  ·rcases hor j' hLj' with rfl | hLb
   ·exfalso
    rw [Io.up_self] at hl'; injection hl' with hl'; subst hl'
    rw [hup j (hne j hLa)] at hl
    have := hlt j b1 hj hnj hLa (fun k h1 h2 h3 h4 => hno k h1 h2 (hLi' k h3) h4) l hl
    have e : l.b = w.heap.size := e
    omega
   ·rw [hup j (hne j hLa)] at hl
    rw [hup j' (hne j' hLb)] at hl'
    exact J.dist j j' b1 b2 hj hj' hnj hnj' hLa hLb (fun k h1 h2 h3 h4 => hno k h1 h2 (hLi' k h3) h4) (fun k h1 h2 h3 h4 => hno' k h1 h2 (hLi' k h3) h4) l l' hl hl' e
end
end Go.Ev
namespace Go.Ev
/-! what ssaOk asks -/
section
variable {ops : Array Oper} {B : Array Nat} (h : ssaOk ops B = true)
include h
theorem ssa_at {i : Nat} {o : Oper} (ho : ops[i]? = some o) :
  (o.after.toList.all fun e => !Region.binds .any e || Nat.blt e.on i) = true ∧ (match o.guard with | some g => (B.getD i 0).testBit g.1 | none => true) = true ∧
  (match o.dst with | some t => ops.toList.zipIdx.all fun (p, j) => Nat.beq i j || p.dst != some t | none => true) = true ∧
  (o.op.operands.toList.all fun x => match x with
   | .tmp t => ops.toList.zipIdx.all fun (p, j) => p.dst != some t || (B.getD i 0).testBit j || (B.getD j 0).testBit i
   | _ => true) = true := by
 unfold ssaOk at h
 have := List.all_eq_true.1 h (o, i) (List.mem_zipIdx_iff_getElem?.2 (by simpa using ho))
 simp only [Bool.and_eq_true] at this
 exact ⟨this.1.1.1, this.1.1.2, this.1.2, this.2⟩
theorem ssa_fwd : fwdB ops = true := by
 unfold fwdB
 rw [List.all_eq_true]
 intro i hi
 rw [List.all_eq_true]
 intro k hk
 have hi := List.mem_range.1 hi
 have ho : ops[i]? = some ops[i] := Array.getElem?_eq_getElem hi
 have h1 := (ssa_at h ho).1
 simp only [binders, ho, Option.map_some, Option.getD_some, List.mem_map, List.mem_filter] at hk
 obtain ⟨e, ⟨he, hb⟩, rfl⟩ := hk
 have := List.all_eq_true.1 h1 e he
 rw [hb] at this
 simpa [blt_eq] using this
theorem ssa_one : ∀ i j, i < ops.size → j < ops.size → dstAt ops i = dstAt ops j → (dstAt ops i).isSome → i = j := by
 intro i j hi hj e hs
 have ho : ops[i]? = some ops[i] := Array.getElem?_eq_getElem hi
 have hoj : ops[j]? = some ops[j] := Array.getElem?_eq_getElem hj
 have h1 := (ssa_at h ho).2.2.1
 have di : dstAt ops i = ops[i].dst := by unfold dstAt; rw [ho]; rfl
 have dj : dstAt ops j = ops[j].dst := by unfold dstAt; rw [hoj]; rfl
 obtain ⟨t, ht⟩ := Option.isSome_iff_exists.1 hs
 rw [di] at ht
 rw [ht] at h1
 have h2 := List.all_eq_true.1 h1 (ops[j], j) (List.mem_zipIdx_iff_getElem?.2 (by simpa using hoj))
 have hd : ops[j].dst = some t := by rw [← dj, ← e, di, ht]
 simp only [hd, bne_self_eq_false, Bool.or_false, beq_eq] at h2
 exact of_decide_eq_true h2
theorem ssa_row {i : Nat} {o : Oper} {t : Nat} (ho : ops[i]? = some o) (ht : Operand.tmp t ∈ o.op.operands.toList) : ∀ j, j < ops.size → dstAt ops j = some t → (B.getD i 0).testBit j = true ∨ (B.getD j 0).testBit i = true := by
 intro j hj hd
 have hoj : ops[j]? = some ops[j] := Array.getElem?_eq_getElem hj
 have h1 := List.all_eq_true.1 (ssa_at h ho).2.2.2 _ ht
 have h2 := List.all_eq_true.1 h1 (ops[j], j) (List.mem_zipIdx_iff_getElem?.2 (by simpa using hoj))
 have dj : dstAt ops j = ops[j].dst := by unfold dstAt; rw [hoj]; rfl
 have hd : ops[j].dst = some t := by rw [← dj, hd]
 simp only [hd, bne_self_eq_false, Bool.false_or, Bool.or_eq_true] at h2
 exact h2
theorem ssa_guard {i : Nat} {o : Oper} {g : Nat × Bool} (ho : ops[i]? = some o) (hg : o.guard = some g) : (B.getD i 0).testBit g.1 = true := by
 have h1 := (ssa_at h ho).2.1
 rw [hg] at h1
 exact h1
end
section
variable {E : Env} {F : CallF} {ops : Array Oper} {k0 : Nat} {ds : Nat → Dr} {val : Nat → AV}
/-- a slot that an operation looks at holds what it held in the order of the text -/
theorem slot_ok (hch : Chain E F ops (Region.before ops) k0 ds val) (hf : fwdB ops = true)
  (hu : ∀ i j, i < ops.size → j < ops.size → dstAt ops i = dstAt ops j → (dstAt ops i).isSome → i = j) {i t : Nat}
  (hssa : ∀ j, j < ops.size → dstAt ops j = some t → ((Region.before ops).getD i 0).testBit j = true ∨ ((Region.before ops).getD j 0).testBit i = true)
  {ι : Io} {L : Nat → Bool} {x : Nat → Value} (hS : Slots ι ops (ds 0).fr val L x) (hL : ∀ k, k < ops.size → L k = true → ∀ b ∈ binders ops k, L b = true)
  (hi : i < ops.size) (hLi : L i = false) (hb : ∀ b ∈ binders ops i, L b = true) (v : AV) (hv : (ds i).fr.t.get t = some v) : rel ι v (x t) := by
 rcases chain_slot hch hu i (by omega) t with ⟨j, h1, h2, h3⟩ | ⟨h1, h2⟩
 ·rw [hv] at h3; injection h3 with h3; subst h3
  rcases hssa j (by omega) h2 with h4 | h4
  ·exact hS.2 j t (by omega) h2 (before_done ops hf L hL i hi hb j h4)
  ·have := before_lt ops hf j (by omega) i h4; omega
 ·rw [hv] at h2
  refine hS.1 t v (fun j hj hd => ?_) h2.symm
  cases hLj : L j with
  | false => rfl
  | true =>
   exfalso
   rcases hssa j hj hd with h4 | h4
   ·exact h1 j (before_lt ops hf i hi j h4) hd
   ·have := before_closed ops hf L hL j hj hLj i h4
    rw [hLi] at this; cases this
/-- a guard, by its slot alone -/
theorem wanted_slot {ι : Io} {fr : Fr} {a : Act} {o : Oper} {b : Bool} (hs : ∀ g d v, o.guard = some g → dstAt ops g.1 = some d → fr.t.get d = some v → rel ι v (a.tmps.getD d undef)) (h : wantedA ops fr o = .ok b) :
  Region.wanted o (yielded ops a.tmps) = b := by
 cases hg : o.guard with
 | none =>
  unfold wantedA at h
  rw [hg] at h; injection h with h
  unfold Region.wanted
  rw [hg]; exact h
 | some g =>
  obtain ⟨j, want⟩ := g
  cases hd : (ops[j]?).bind (·.dst) with
  | none => unfold wantedA at h; rw [hg] at h; simp only [hd] at h; cases h
  | some d =>
   cases hv : fr.t.get d with
   | none => unfold wantedA at h; rw [hg] at h; simp only [hd, hv] at h; cases h
   | some v =>
    have hr := hs (j, want) d v hg hd hv
    refine wanted_ok (ι := ι) (n := a.tmps.size) (fr := ⟨T.leaf.set d v, []⟩) (a := { a with defers := [] }) ⟨fun t u ht => ?_, rfl, rfl⟩ (o := o) (b := b) ?_
    ·rw [T.get_set] at ht
     by_cases e : t = d
     ·subst e; rw [if_pos rfl] at ht; injection ht with ht; subst ht; exact hr
     ·rw [if_neg e, T.get_leaf] at ht; cases ht
    ·rw [← h]
     unfold wantedA
     rw [hg]
     simp only [hd, hv, T.get_set, if_true]
theorem chain_ds {B : Array Nat} (hch : Chain E F ops B k0 ds val) : ∀ i, i ≤ ops.size → (ds i).fr.ds = (ds 0).fr.ds := by
 intro i
 induction i with
 | zero => intro _; rfl
 | succ i ih =>
  intro hi
  have hs := hch i _ (Array.getElem?_eq_getElem (show i < ops.size by omega))
  rw [hs.fr, ← ih (by omega)]
  cases ops[i].dst <;> rfl
theorem chain_reads {B : Array Nat} (hch : Chain E F ops B k0 ds val) {i : Nat} {r : Nat × Fr × Oper × AV} (hr : r ∈ (ds i).reads) : ∀ j, i ≤ j → j ≤ ops.size → r ∈ (ds j).reads := by
 intro j hij
 induction j with
 | zero => intro _; have : i = 0 := by omega
           subst this; exact hr
 | succ j ih =>
  intro hj
  by_cases e : i = j + 1
  ·subst e; exact hr
  ·have ih := ih (by omega) (by omega)
   have hs := hch j _ (Array.getElem?_eq_getElem (show j < ops.size by omega))
   generalize ds (j + 1) = d1 at *
   generalize val j = v1 at hs
   cases hs with
   | skip hw => exact ih
   | val hw => exact ih
   | rd hw => exact List.mem_cons_of_mem _ ih
   | new hw => exact ih
   | wr hw => exact ih
/-- the memory behind the last writer below c -/
theorem chain_last {B : Array Nat} (hch : Chain E F ops B k0 ds val) (h0 : (ds 0).hist = [(0, (ds 0).s)]) : ∀ c, c ≤ ops.size → ∃ j, (j, (ds c).s) ∈ (ds ops.size).hist ∧ j ≤ c ∧ ∀ k, j ≤ k → k < c → ¬ WrAt ds k := by
 intro c
 obtain ⟨g1, g2⟩ := chain_hist hch h0 ops.size (Nat.le_refl _)
 induction c with
 | zero => intro _; exact ⟨0, g1, Nat.le_refl _, fun k _ hk => by omega⟩
 | succ c ih =>
  intro hc
  by_cases hw : WrAt ds c
  ·exact ⟨c + 1, g2 c (by omega) hw, Nat.le_refl _, fun k h1 h2 => by omega⟩
  ·obtain ⟨j, h1, h2, h3⟩ := ih (by omega)
   have hs := chain_same hch 1 c (by omega) (fun k h1 h2 => by
    have : k = c := by omega
    subst this; exact hw)
   refine ⟨j, by rw [hs]; exact h1, by omega, fun k hk1 hk2 => ?_⟩
   by_cases e : k = c
   ·subst e; exact hw
   ·exact h3 k hk1 (by omega)
/-- the invariant's memory with the blocks that an operation waits for -/
theorem pend_rel {ι0 ι : Io} {s0 : St} {w0 w : World} {L : Nat → Bool} {c : Nat} (hch : Chain E F ops (Region.before ops) k0 ds val) (h0p : (ds 0).pend = [])
  (J : MemJ ι0 s0 w0 ops (Region.before ops) k0 ds L w c ι) (m : Nat) (hm : ∀ j, m.testBit j = true → j < ops.size → L j = true) : HRel ι (adopt m (ds ops.size).pend (ds c).s).2 w := by
 have hp : ∀ p ∈ (ds ops.size).pend, m.testBit p.1 = true → ∃ j b, j < ops.size ∧ p = (j, k0 + j, b) ∧ NewAt k0 ds j b ∧ L j = true ∧ ∀ q, q < ops.size → WrAt ds q → L q = true → j < q → ((Region.before ops).getD q 0).testBit j = false := by
  intro p hp hbit
  obtain ⟨j, b, h1, h2, h3, h4⟩ := chain_pend hch h0p ops.size (Nat.le_refl _) p hp
  refine ⟨j, b, h1, h2, h3, ?_, fun q hq hwq _ hjq => h4 q hq hwq hjq⟩
  rw [h2] at hbit
  exact hm j hbit h1
 refine adopt_rel J.h _ _ (fun p hpm hbit => ?_) (fun p hpm q hqm hbp hbq lp lq hlp hlq e => ?_)
 ·obtain ⟨j, b, h1, h2, h3, h4, h5⟩ := hp p hpm hbit
  subst h2
  exact (J.pend j b h1 h3 h4 h5).1
 ·obtain ⟨j, b, h1, h2, h3, h4, h5⟩ := hp p hpm hbp
  obtain ⟨j', b', h1', h2', h3', h4', h5'⟩ := hp q hqm hbq
  subst h2 h2'
  have := J.dist j j' b b' h1 h1' h3 h3' h4 h4' h5 h5' lp lq hlp hlq e
  rw [this]
/-- a read gives at its time what it gave in the order of the text -/
theorem read_same {ι0 ι : Io} {s0 : St} {w0 w : World} {L : Nat → Bool} {c : Nat} (hch : Chain E F ops (Region.before ops) k0 ds val) (hf : fwdB ops = true) (h0 : (ds 0).done = []) (h0h : (ds 0).hist = [(0, (ds 0).s)])
  (J : MemJ ι0 s0 w0 ops (Region.before ops) k0 ds L w c ι) (hL : ∀ k, k < ops.size → L k = true → ∀ b ∈ binders ops k, L b = true) (hro : readsOk E (Region.before ops) (ds ops.size) = true)
  {i : Nat} {o : Oper} {q : Fr} {v : AV} {g : RdF} (hi : i < ops.size) (hLi : L i = false) (hb : ∀ b ∈ binders ops i, L b = true) (hr : (i, q, o, v) ∈ (ds ops.size).reads) (hg : rdOf (cls o.op) = some g) :
  g E q (adopt ((Region.before ops).getD i 0) (ds ops.size).pend (ds c).s).2 = .ok v := by
 obtain ⟨j, h1, h2, h3⟩ := chain_last hch h0h c J.cN
 unfold readsOk at hro
 have h4 := List.all_eq_true.1 (List.all_eq_true.1 hro _ hr) _ h1
 have hd := chain_done hch h0 ops.size (Nat.le_refl _)
 have e1 : (((ds ops.size).done.filter fun k => !Nat.blt k j).any (((Region.before ops).getD i 0).testBit ·)) = false := by
  rw [List.any_eq_false]
  intro k hk hbit
  rw [List.mem_filter] at hk
  obtain ⟨hk1, hk2⟩ := hk
  obtain ⟨hkN, hkw⟩ := (hd k).1 hk1
  have hjk : j ≤ k := by simpa [blt_eq] using hk2
  have := (J.cL k hkN hkw).1 (before_done ops hf L hL i hi hb k hbit)
  exact h3 k hjk this hkw
 have e2 : (((ds ops.size).done.filter fun k => Nat.blt k j).any (fun k => ((Region.before ops).getD k 0).testBit i)) = false := by
  rw [List.any_eq_false]
  intro k hk hbit
  rw [List.mem_filter] at hk
  obtain ⟨hk1, hk2⟩ := hk
  obtain ⟨hkN, hkw⟩ := (hd k).1 hk1
  have hjk : k < j := by simpa [blt_eq] using hk2
  have := before_closed ops hf L hL k hkN ((J.cL k hkN hkw).2 (by omega)) i hbit
  rw [hLi] at this; cases this
 simp only [e1, e2, Bool.or_false, cond_false, hg] at h4
 split at h4
 ·rename_i v' hv
  rw [hv, beqA_eq _ _ h4]
 ·cases h4
end
end Go.Ev
namespace Go.Ev
def toExit : Ex → Exit
 | .normal => .normal
 | .exit id => .exit id
 | .ret => .ret
/-- what comes of a piece of code -/
def Comes' (ι : Io) (n : Nat) (s : St) (w : World) (r : List Out) (Q : Exit → Act → World → Prop) : Prop :=
 ∀ p ∈ r, ∀ a' w' ι', Stp ι s w ι' p.s w' → FRel ι' n p.fr a' → Q (toExit p.e) a' w'
def CodeOk (E : Env) (V : CodeF) (c : Code) : Prop := ∀ n fr s r, V c fr s = .ok r → fitsC n c = true → ∀ ι w a, FRel ι n fr a → HRel ι s w → ∀ Q, Comes' ι n s w r Q → c.wp E.P Q a w
/-- at the head of a loop -/
def LoopFrom (P : Program) (Q : Exit → Act → World → Prop) (c : Code) (a : Act) (w : World) : Prop :=
 ∀ (b : Frame) (k : List Item) (cs : List Frame), ∃ e a' w', Q e a' w' ∧ Arrives P (lone (b.at a (.code c :: .inLoop c :: k)) cs w) b k cs e a' w'
theorem loop_of {P : Program} {Q : Exit → Act → World → Prop} {c : Code} {a : Act} {w : World} (h : LoopFrom P Q c a w) : (Code.loop c).wp P Q a w := fun b k cs =>
 let ⟨e, a', w', hq, harr⟩ := h b k cs
 ⟨e, a', w', hq, .of_steps (.one step_loop) harr⟩
theorem loop_round {P : Program} {Q : Exit → Act → World → Prop} {c : Code} {a : Act} {w : World} (h : c.wp P (Exit.then (fun a w => LoopFrom P Q c a w) Q) a w) : LoopFrom P Q c a w := by
 intro b k cs
 obtain ⟨e, a₁, w₁, hq, harr⟩ := h b (.inLoop c :: k) cs
 cases e with
 | normal =>
  obtain ⟨e₂, a₂, w₂, hq₂, harr₂⟩ := hq b k cs
  exact ⟨e₂, a₂, w₂, hq₂, .of_steps (Steps.trans harr (.one step_inLoop)) harr₂⟩
 | exit id => exact ⟨_, a₁, w₁, hq, .pass (x := .inLoop c) rfl (fun _ _ => .inl (by simp)) harr⟩
 | goto l => exact ⟨_, a₁, w₁, hq, .pass (x := .inLoop c) rfl (fun _ _ => .inl (by simp)) harr⟩
 | ret => exact ⟨_, a₁, w₁, hq, .pass (x := .inLoop c) rfl (fun _ _ => .inl (by simp)) harr⟩
 | panic ch => exact ⟨_, a₁, w₁, hq, .pass (x := .inLoop c) rfl (fun _ _ => .inl (by simp)) harr⟩
 | outgrown => exact ⟨_, a₁, w₁, hq, .pass (x := .inLoop c) rfl (fun _ _ => .inl (by simp)) harr⟩
def LoopOk (E : Env) (V : CodeF) (b : Code) : Prop := ∀ n fr s r, V (.loop b) fr s = .ok r → fitsC n b = true → ∀ ι w a, FRel ι n fr a → HRel ι s w → ∀ Q, Comes' ι n s w r Q → LoopFrom E.P Q b a w
/-- a region that draws -/
def DrawnOk (E : Env) (F : CallF) : Prop := ∀ id ops n fr s r, evDrawn E F ops fr s = .ok r → ops.toList.all (fitsO n) = true → ∀ ι w a, FRel ι n fr a → HRel ι s w →
 ∀ Q : Exit → Act → World → Prop, (∀ p ∈ r, ∀ a' w' ι', Stp ι s w ι' p.2 w' → FRel ι' n p.1 a' → Q .normal a' w') → (Code.region id ops true).wp E.P Q a w
theorem outs_mem {x : R (List (Fr × St))} {r : List Out} (h : outs x = .ok r) : ∃ l, x = .ok l ∧ r = l.map fun p => ⟨.normal, p.1, p.2⟩ := by
 unfold outs at h
 split at h
 ·injection h with h; exact ⟨_, rfl, h.symm⟩
 ·injection h with h; exact ⟨_, rfl, h.symm⟩
 ·cases h
theorem Comes'.seq {ι : Io} {n : Nat} {s : St} {w : World} {l r : List Out} {f : Out → R (List Out)} (h : bindL l f = .ok r) {Q Q' : Exit → Act → World → Prop} (hQ : Comes' ι n s w r Q)
  (hs : ∀ o r', f o = .ok r' → ∀ a' w' ι', Stp ι s w ι' o.s w' → FRel ι' n o.fr a' → Comes' ι' n o.s w' r' Q → Q' (toExit o.e) a' w') : Comes' ι n s w l Q' := by
 intro o ho a' w' ι' hst hfr
 obtain ⟨r', h1, h2⟩ := bindL_mem h o ho
 exact hs o r' h1 a' w' ι' hst hfr fun p hp a'' w'' ι'' hst' hfr' => hQ p (h2 p hp) a'' w'' ι'' (hst.trans hst') hfr'
section
variable {E : Env} (hE : EnvOk E) {C : Cons} {V : CodeF} (hV : ∀ c, CodeOk E V c) (hL : ∀ c, LoopOk E V c) (hF : FOk E (callOf E C V)) (hD : DrawnOk E (callOf E C V))
include hE hV hL hF hD
theorem loop_step (b : Code) : LoopOk E (evStep E C V) b := by
 intro n fr s r h hfit ι w a H HR Q hQ
 have h : sSeq V (.loop b) (V b fr s) = .ok r := h
 unfold sSeq at h
 split at h
 ·rename_i l hl
  refine loop_round (hV b n fr s l hl hfit ι w a H HR _ (Comes'.seq h hQ fun o r' ho a' w' ι' hst hfr hc => ?_))
  cases he : o.e with
  | normal =>
   rw [he] at ho
   exact hL b n o.fr o.s r' ho hfit ι' w' a' hfr hst.h Q hc
  | exit id =>
   rw [he] at ho
   injection ho with ho; subst ho
   have := hc o (List.mem_singleton.2 rfl) a' w' ι' (Stp.refl hst.h) hfr
   rw [he] at this; exact this
  | ret =>
   rw [he] at ho
   injection ho with ho; subst ho
   have := hc o (List.mem_singleton.2 rfl) a' w' ι' (Stp.refl hst.h) hfr
   rw [he] at this; exact this
 ·cases h
theorem code_step (c : Code) : CodeOk E (evStep E C V) c := by
 intro n fr s r h hfit ι w a H HR Q hQ
 have h : stepOf c E C V fr s = .ok r := h
 cases c with
 | skip => injection h with h; subst h; exact wp_skip (hQ _ (List.mem_singleton.2 rfl) a w ι (Stp.refl HR) H)
 | label l => injection h with h; subst h; exact wp_label (hQ _ (List.mem_singleton.2 rfl) a w ι (Stp.refl HR) H)
 | exit id => injection h with h; subst h; exact wp_exit (hQ _ (List.mem_singleton.2 rfl) a w ι (Stp.refl HR) H)
 | ret => injection h with h; subst h; exact wp_ret (hQ _ (List.mem_singleton.2 rfl) a w ι (Stp.refl HR) H)
 | goto l => cases h
 | rangeFunc _ _ _ _ => cases h
 | refuse _ => cases h
 | region id ops draw =>
  obtain ⟨l, hl, rfl⟩ := outs_mem h
  have hQ' : ∀ p ∈ l, ∀ a' w' ι', Stp ι s w ι' p.2 w' → FRel ι' n p.1 a' → Q .normal a' w' := fun p hp a' w' ι' hst hfr => hQ ⟨.normal, p.1, p.2⟩ (List.mem_map.2 ⟨p, hp, rfl⟩) a' w' ι' hst hfr
  cases draw with
  | true => exact hD id ops n fr s l hl hfit ι w a H HR Q hQ'
  | false => exact wp_region_list (evOps_ok hE hF ops.toList fr s l hl (fun o ho => List.all_eq_true.1 hfit o ho) ι w a H HR Q hQ')
 | seq x y =>
  have h : sSeq V y (V x fr s) = .ok r := h
  have hfit : (fitsC n x && fitsC n y) = true := hfit
  rw [Bool.and_eq_true] at hfit
  unfold sSeq at h
  split at h
  ·rename_i l hl
   refine wp_seq (hV x n fr s l hl hfit.1 ι w a H HR _ (Comes'.seq h hQ fun o r' ho a' w' ι' hst hfr hc => ?_))
   cases he : o.e with
   | normal =>
    rw [he] at ho
    exact hV y n o.fr o.s r' ho hfit.2 ι' w' a' hfr hst.h Q hc
   | exit id =>
    rw [he] at ho
    injection ho with ho; subst ho
    have := hc o (List.mem_singleton.2 rfl) a' w' ι' (Stp.refl hst.h) hfr
    rw [he] at this; exact this
   | ret =>
    rw [he] at ho
    injection ho with ho; subst ho
    have := hc o (List.mem_singleton.2 rfl) a' w' ι' (Stp.refl hst.h) hfr
    rw [he] at this; exact this
  ·cases h
 | cond x y z =>
  have h : sCond V y z fr s (aev fr x) = .ok r := h
  have hfit : (fitsC n y && fitsC n z) = true := hfit
  rw [Bool.and_eq_true] at hfit
  unfold sCond at h
  split at h
  ·rename_i t ht
   have hb := (aev_rel H ht).1
   refine wp_cond hb ?_
   cases t with
   | true => exact hV y n fr s r h hfit.1 ι w a H HR Q hQ
   | false => exact hV z n fr s r h hfit.2 ι w a H HR Q hQ
  ·cases h
  ·cases h
 | block id b =>
  have h : sBlock id (V b fr s) = .ok r := h
  unfold sBlock at h
  split at h
  ·rename_i l hl
   refine wp_block (hV b n fr s l hl hfit ι w a H HR _ (Comes'.seq h hQ fun o r' ho a' w' ι' hst hfr hc => ?_))
   cases he : o.e with
   | normal =>
    rw [he] at ho
    injection ho with ho; subst ho
    have := hc o (List.mem_singleton.2 rfl) a' w' ι' (Stp.refl hst.h) hfr
    rw [he] at this; exact this
   | ret =>
    rw [he] at ho
    injection ho with ho; subst ho
    have := hc o (List.mem_singleton.2 rfl) a' w' ι' (Stp.refl hst.h) hfr
    rw [he] at this; exact this
   | exit id' =>
    rw [he] at ho
    injection ho with ho; subst ho
    have := hc _ (List.mem_singleton.2 rfl) a' w' ι' (by cases Nat.beq id' id <;> exact Stp.refl hst.h) (by cases Nat.beq id' id <;> exact hfr)
    rw [beq_eq] at this
    simp only [toExit, Exit.inBlock]
    by_cases hid : id' = id
    ·simp only [hid, decide_true, cond_true, toExit] at this
     rw [if_pos hid]; exact this
    ·simp only [hid, decide_false, cond_false, he, toExit] at this
     rw [if_neg hid]; exact this
  ·cases h
 | loop b => exact loop_of (loop_step hE hV hL hF hD b n fr s r h hfit ι w a H HR Q hQ)
 | scope b =>
  refine wp_scope_straight (hV b n fr s r h hfit ι w a H HR _ fun p hp a' w' ι' hst hfr => ?_)
  have := hQ p hp a' w' ι' hst hfr
  cases he : p.e <;> (rw [he] at this; exact this)
end
end Go.Ev
namespace Go.Ev
theorem frameOf_getD {n : Nat} {x : Nat → Value} {t : Nat} (h : ∀ t, n ≤ t → x t = undef) : (frameOf n x).getD t undef = x t := by
 unfold frameOf
 rw [Array.getD_eq_getD_getElem?]
 simp only [List.getElem?_toArray, List.getElem?_map]
 by_cases ht : t < n
 ·simp [List.getElem?_range ht]
 ·rw [h t (by omega), List.getElem?_eq_none (by simp; omega)]
  rfl
theorem frameOf_size (n : Nat) (x : Nat → Value) : (frameOf n x).size = n := by simp [frameOf]
section
variable {E : Env} (hE : EnvOk E) {F : CallF} (hF : FOk E F)
include hE hF
theorem drawn_ok : DrawnOk E F := by
 intro id ops n fr s r h hfit ι w a H HR Q hQ
 unfold evDrawn at h
 cases hssa : ssaOk ops (Region.before ops) with
 | false => rw [hssa] at h; cases h
 | true =>
 rw [hssa] at h
 simp only [cond_true] at h
 split at h
 ·rename_i dfin hdr
  cases hro : readsOk E (Region.before ops) dfin with
  | false => rw [hro] at h; cases h
  | true =>
  rw [hro] at h
  simp only [cond_true] at h
  injection h with h; subst h
  obtain ⟨ds, val, hd0, hdN, hch0⟩ := drawn_chain _ _ _ _ hdr
  have hch : Chain E F ops (Region.before ops) s.nx ds val := by
   intro j o ho
   have := hch0 j o (by simpa using ho)
   simpa using this
  rw [Nat.zero_add, Array.length_toList] at hdN
  have hf := ssa_fwd hssa
  have hu := ssa_one hssa
  have h0 : (ds 0).done = [] := by rw [hd0]
  have h0p : (ds 0).pend = [] := by rw [hd0]
  have h0h : (ds 0).hist = [(0, (ds 0).s)] := by rw [hd0]
  have hfr0 : (ds 0).fr = fr := by rw [hd0]
  have hs0 : (ds 0).s = ⟨s.h, s.nx + ops.size⟩ := by rw [hd0]
  rw [← hdN] at hro
  have hfo : ∀ (i : Nat) (o : Oper) (d : Nat), ops[i]? = some o → o.dst = some d → d < n := by
   intro i o d ho hd
   have := List.all_eq_true.1 hfit o (by rw [Array.mem_toList_iff]; exact Array.mem_of_getElem? ho)
   unfold fitsO at this
   rw [hd] at this
   simp only [blt_eq] at this
   exact of_decide_eq_true this
  refine wp_region_inv n (fun L x w' => ∃ c ι', MemJ ι s w ops (Region.before ops) s.nx ds L w' c ι' ∧ Slots ι' ops (ds 0).fr val L x ∧ (∀ k, k < ops.size → L k = true → ∀ b ∈ binders ops k, L b = true) ∧ ∀ t, n ≤ t → x t = undef) hE.mixed H.size hf ?_ ?_ ?_
  ·refine ⟨0, ι, ⟨fun k hk _ => ?_, Nat.zero_le _, by rw [hs0]; exact Nat.le_refl _, ?_, Sub.refl ι, fun _ _ => rfl, Nat.le_refl _, fun _ _ _ => rfl, fun k l bb hk hl => ?_, rfl, rfl, rfl, fun j _ _ => HR.fresh _ (Nat.le_add_right _ _), fun j b hj _ hLj => ?_, fun j j' b b' hj hj' _ _ hLj => ?_⟩, ⟨fun t v _ hv => ?_, fun j t hj _ hLj => ?_⟩, fun k hk hLk => ?_, fun t ht => ?_⟩
   ·simp; omega
   ·rw [hs0]
    exact (HR.less (s' := ⟨s.h, s.nx + ops.size⟩) (fun _ _ h => h) (Nat.le_add_right _ _)).congr rfl
   ·rw [hs0] at hk
    exact .inr ⟨k, l, bb, hk, hl, rfl⟩
   ·simp at hLj; omega
   ·simp at hLj; omega
   ·rw [hfr0] at hv; exact H.slot t v hv
   ·simp at hLj; omega
   ·simp at hLk; omega
   ·have hsz : a.tmps.size ≤ t := by rw [H.size]; exact ht
    simp [Array.getElem?_eq_none hsz]
  ·intro i o ho L x w' hJ hLi hb K hK
   obtain ⟨c, ι', J, hS, hL, hx⟩ := hJ
   have hi : i < ops.size := (Array.getElem?_eq_some_iff.1 ho).1
   have hs := hch i o ho
   have hL' : ∀ k, k < ops.size → (k == i || L k) = true → ∀ b ∈ binders ops k, (b == i || L b) = true := by
    intro k hk hLk b hbk
    simp only [Bool.or_eq_true, beq_iff_eq] at hLk ⊢
    rcases hLk with rfl | hLk
    ·exact .inr (hb b hbk)
    ·exact .inr (hL k hk hLk b hbk)
   have hx' : ∀ y t, n ≤ t → putX x o.dst y t = undef := by
    intro y t ht
    unfold putX
    by_cases e : o.dst = some t
    ·have := hfo i o t ho e; omega
    ·rw [if_neg e]; exact hx t ht
   have hslot : ∀ t v, Operand.tmp t ∈ o.op.operands.toList → (ds i).fr.t.get t = some v → rel ι' v ((⟨frameOf n x, a.defers⟩ : Act).tmps.getD t undef) := by
    intro t v ht hv
    rw [show (⟨frameOf n x, a.defers⟩ : Act).tmps = frameOf n x from rfl, frameOf_getD hx]
    exact slot_ok hch hf hu (ssa_row hssa ho ht) hS hL hi hLi hb v hv
   have hER : ERel ι' (restr (ds i).fr o) (⟨frameOf n x, a.defers⟩ : Act).eval := by
    have := (restr_rel (n := n) hslot (frameOf_size n x)).ev
    exact this
   have hwant : ∀ b, wantedA ops (ds i).fr o = .ok b → Region.wanted o (yielded ops (⟨frameOf n x, a.defers⟩ : Act).tmps) = b := by
    intro b hwa
    refine wanted_slot (ι := ι') (fun g d v hg hd hv => ?_) hwa
    rw [show (⟨frameOf n x, a.defers⟩ : Act).tmps = frameOf n x from rfl, frameOf_getD hx]
    refine slot_ok hch hf hu (fun j hj hdj => ?_) hS hL hi hLi hb v hv
    have hgb := ssa_guard hssa ho hg
    have hgl := before_lt ops hf i hi _ hgb
    have : j = g.1 := hu j g.1 hj (by omega) (hdj.trans hd.symm) (by rw [hdj]; rfl)
    subst this
    exact .inl hgb
   -- behind an operation that leaves the memory
   have still : ¬ WrAt ds i → (∀ b, ¬ NewAt s.nx ds i b) → ∀ y, rel ι' (val i) y → K ((⟨frameOf n x, a.defers⟩ : Act).put o.dst y) w' := by
    intro hw hn y hy
    exact hK y w' ⟨c, ι', J.still hw hn, slots_put (Sub.refl _) hu hS ho hy, hL', hx' y⟩
   unfold wpOp
   rw [ho]
   simp only
   have hne : ∀ l : List Nat, l ≠ i :: l := fun l e => by
    have := congrArg List.length e
    simp at this
   have hne' : ∀ (l : List (Nat × Nat × ABlk)) p, l ≠ p :: l := fun l p e => by
    have := congrArg List.length e
    simp at this
   have hWr : WrAt ds i = ((ds (i + 1)).done = i :: (ds i).done) := rfl
   have hNw : ∀ b, NewAt s.nx ds i b = ((ds (i + 1)).pend = (i, s.nx + i, b) :: (ds i).pend) := fun _ => rfl
   have hrd : ∀ q v, (i, q, o, v) ∈ (ds (i + 1)).reads → (i, q, o, v) ∈ (ds ops.size).reads := fun q v hm => chain_reads hch hm ops.size (by omega) (Nat.le_refl _)
   have hwrote := fun hw => fun {ι'' : Io} {w'' : World} => J.wrote (ι' := ι'') (w' := w'') hch hf h0 h0p hL hi hLi hb hw
   have hturn := fun hw => turn_mem hch hf h0 h0p J hL hi hLi hb hw
   have hlaid := fun hw => fun {b : ABlk} (hn : NewAt s.nx ds i b) => fun {m : Nat} {ob : Obj} => J.laid (n := m) (ob := ob) hi hLi hw hn
   generalize hv1 : val i = v1 at hs still
   generalize hd1 : ds (i + 1) = d1 at hs hWr hNw hrd hwrote
   cases hs with
   | skip hw =>
    rw [if_neg (by rw [hwant _ hw]; simp)]
    exact still (by rw [hWr]; exact hne _) (fun b => by rw [hNw]; exact hne' _ _) _ (undef_rel _)
   | val hw f a1 hc hval =>
    rw [if_pos (hwant _ hw)]
    left
    obtain ⟨y, hy, hrun⟩ := val_ok hE hER hc hval
    unfold Oper.wp
    rw [hrun w']
    exact still (by rw [hWr]; exact hne _) (fun b => by rw [hNw]; exact hne' _ _) y hy
   | rd hw g a1 hc hrdv =>
    rw [if_pos (hwant _ hw)]
    left
    have hs1 := read_same hch hf h0 h0h J hL hro hi hLi hb (hrd _ _ List.mem_cons_self) hc
    have hR := pend_rel hch h0p J ((Region.before ops).getD i 0) (fun j hj _ => before_done ops hf L hL i hi hb j hj)
    obtain ⟨y, hy, hrun⟩ := rd_ok hE hER hR hc hs1
    unfold Oper.wp
    rw [hrun]
    exact still (by rw [hWr]; exact hne _) (fun b => by rw [hNw]; exact hne' _ _) y hy
   | new hw f a1 s' b hc hnew hb' =>
    rw [if_pos (hwant _ hw)]
    left
    obtain ⟨b1, rfl, hn⟩ := new_ok hE hER hc hnew
    obtain ⟨y, ob, m, hrun, hbr, hy⟩ := hn w'
    have hb1 : b1 = b := by
     rw [St.new_get, if_pos rfl] at hb'
     injection hb'
    subst hb1
    unfold Oper.wp
    rw [hrun]
    have hnw : ¬ WrAt ds i := by rw [hWr]; exact hne _
    refine hK y _ ⟨c, _, hlaid hnw (by rw [hNw]) hbr, slots_put (Io.up_sub (J.none i hi hLi)) hu hS ho ?_, hL', hx' y⟩
    rw [hv1]
    exact hy _ Io.up_self
   | wr hw g a1 s' hc hall hwr =>
    rw [if_pos (hwant _ hw)]
    left
    have hwa : WrAt ds i := by rw [hWr]
    refine wr_ok hE hER (hturn hwa).1 hF hc hwr _ rfl _ Q fun p hp y w'' ι'' hst hy => ?_
    have hp := List.mem_singleton.1 hp
    subst hp
    refine hK y w'' ⟨i + 1, ι'', hwrote hwa hst, slots_put hst.sub hu hS ho (by rw [hv1]; exact hy), hL', hx' y⟩
  ·intro L x w' hJ hall
   obtain ⟨c, ι', J, hS, hL, hx⟩ := hJ
   have hsame : (ds ops.size).s = (ds c).s := by
    have := chain_same hch (ops.size - c) c (by have := J.cN; omega) (fun k h1 h2 hwk => by
     have hk : k < ops.size := by have := J.cN; omega
     have := (J.cL k hk hwk).1 (hall k hk)
     omega)
    rw [show c + (ops.size - c) = ops.size by have := J.cN; omega] at this
    exact this
   have hR := pend_rel hch h0p J (2 ^ ops.size - 1) (fun j _ hj => hall j hj)
   refine hQ _ (List.mem_singleton.2 rfl) _ w' ι' ⟨J.sub, ?_, J.size, J.old, fun k l bb hk hl => ?_, J.os, J.tape, J.output, ?_, J.keep⟩ ⟨fun t v hv => ?_, frameOf_size n x, ?_⟩
   ·rw [← hdN, hsame]; exact hR
   ·rw [← hdN, hsame] at hk
    rcases adopt_get _ _ _ k bb hk with h1 | ⟨p, h1, h2, h3, h4⟩
    ·exact J.img k l bb h1 hl
    ·obtain ⟨j, b, g1, g2, g3, g4⟩ := chain_pend hch h0p ops.size (Nat.le_refl _) p h1
     subst g2
     left
     subst h3
     exact (J.pend j b g1 g3 (hall j g1) (fun q hq hwq _ hjq => g4 q hq hwq hjq)).2 l hl
   ·rw [adopt_nx, ← hdN, hsame]
    have := J.nx
    omega
   ·rw [← hdN] at hv
    rw [show (⟨frameOf n x, a.defers⟩ : Act).tmps = frameOf n x from rfl, frameOf_getD hx]
    rcases chain_slot hch hu ops.size (Nat.le_refl _) t with ⟨j, h1, h2, h3⟩ | ⟨h1, h2⟩
    ·rw [hv] at h3; injection h3 with h3; subst h3
     exact hS.2 j t h1 h2 (hall j h1)
    ·exact hS.1 t v (fun j hj hd => absurd hd (h1 j hj)) (by rw [← h2]; exact hv)
   ·rw [← hdN, chain_ds hch ops.size (Nat.le_refl _), hfr0]
    exact H.ds.sub J.sub
 ·cases h
end
end Go.Ev
namespace Go.Ev
theorem mapM_at {α β : Type} {P : Program} {w : World} (f : α → Sem β) : ∀ (l : List α) (r : List β), r.length = l.length → (∀ (i : Nat) (x : α), l[i]? = some x → ∃ y, (f x).run P w = .ok y w ∧ r[i]? = some y) → (l.mapM f).run P w = .ok r w
 | [], r, h, _ => by
  have : r = [] := List.length_eq_zero_iff.1 h
  subst this
  simp only [List.mapM_nil]; rfl
 | a :: l, [], h, _ => by simp at h
 | a :: l, b :: r, h, hf => by
  obtain ⟨y, h1, h2⟩ := hf 0 a (by simp)
  simp at h2; subst h2
  simp only [List.mapM_cons, Sem.run_bind, h1, Result.andThen_ok, mapM_at f l r (by simpa using h) (fun i x hx => by simpa using hf (i + 1) x (by simpa using hx))]
  rfl
theorem enterF_get : ∀ (args : List AV) (i : Nat) (t : T AV) (q : Nat), (enterF i args t).get q = if i ≤ q ∧ q < i + args.length then args[q - i]? else t.get q
 | [], i, t, q => by simp [enterF]; intro h1 h2; omega
 | a :: r, i, t, q => by
  simp only [enterF, enterF_get r (i + 1) (t.set i a) q, T.get_set, List.length_cons]
  by_cases h0 : q = i
  ·subst h0
   rw [if_neg (by omega), if_pos rfl, if_pos (by omega)]; simp
  ·by_cases h1 : i + 1 ≤ q ∧ q < i + 1 + r.length
   ·rw [if_pos h1, if_pos (by omega)]
    rw [show q - i = (q - (i + 1)) + 1 by omega, List.getElem?_cons_succ]
   ·rw [if_neg h1, if_neg h0, if_neg (by omega)]
theorem entry_rel {ι : Io} {args : List AV} {vs : List Value} (h : relL ι args vs) {n : Nat} (hn : args.length ≤ n) :
  FRel ι n ⟨enterF 0 args .leaf, []⟩ { tmps := List.toArray vs ++ Array.replicate (n - (List.toArray vs).size) undef, defers := [] } where
 slot := fun t v ht => by
  simp only [enterF_get, T.get_leaf] at ht
  by_cases hh : 0 ≤ t ∧ t < 0 + args.length
  ·rw [if_pos hh] at ht
   obtain ⟨y, h1, h2⟩ := h.get t v (by simpa using ht)
   have hlt := (List.getElem?_eq_some_iff.1 h1).1
   rw [Array.getD_eq_getD_getElem?, Array.getElem?_append_left (by simpa using hlt)]
   simpa [h1] using h2
  ·rw [if_neg hh] at ht; cases ht
 size := by have := h.length; simp; omega
 ds := rfl
def resF (tmps : Array Value) : ResultVar → Sem Value
 | .tmp t => pure (tmps.getD t undef)
 | .cell a t => do loadVar t (← asAddr (tmps.getD a undef))
theorem results_eq (fn : Func) (tmps : Array Value) : results fn tmps = (do
  let vs ← fn.results.mapM (resF tmps)
  pure (if h : vs.size = 1 then vs[0] else .tuple vs)) := by
 unfold results
 congr 2
section
variable {E : Env} (hE : EnvOk E)
include hE
theorem results_ok {ι : Io} {n : Nat} {fr : Fr} {a : Act} (H : FRel ι n fr a) {s : St} {w : World} (HR : HRel ι s w) {fn : Func} {v : AV} (h : aresults E fn fr s = .ok v) : ∃ x, rel ι v x ∧ (results fn a.tmps).run E.P w = .ok x w := by
 unfold aresults at h
 have key : ∀ vs, mapR (aresult1 E fr s) fn.results.toList = .ok vs → ∃ xs : List Value, relL ι vs xs ∧ (fn.results.mapM (resF a.tmps)).run E.P w = .ok (List.toArray xs) w := by
  intro vs hvs
  obtain ⟨m1, m2⟩ := mapR_ok hvs
  have hone : ∀ (rv : ResultVar) (u : AV), aresult1 E fr s rv = .ok u → ∃ x, rel ι u x ∧ (resF a.tmps rv).run E.P w = .ok x w := by
   intro rv u hu
   cases rv with
   | tmp t =>
    simp only [aresult1] at hu
    cases hg : fr.t.get t with
    | none => rw [hg] at hu; cases hu
    | some q => rw [hg] at hu; injection hu with hu; subst hu; exact ⟨_, H.slot t q hg, rfl⟩
   | cell b t =>
    simp only [aresult1] at hu
    cases hg : fr.t.get b with
    | none => rw [hg] at hu; cases hu
    | some q =>
     rw [hg] at hu
     have hq := H.slot b q hg
     obtain ⟨y, y1, y2⟩ := aload_run hE HR hu hq
     refine ⟨y, y1, ?_⟩
     cases q with
     | ptr k off =>
      obtain ⟨l, _, e⟩ := hq
      rw [e] at y2
      simp only [Instr.loadAt, Instr.sureAddr, Sem.run_bind, Sem.run_pure, Result.andThen_ok] at y2
      simp only [resF, e, asAddr, Sem.run_bind, Sem.run_pure, Result.andThen_ok, y2]
     | _ => cases hu
  -- the values, one by one
  have hex : ∃ xs : List Value, xs.length = fn.results.toList.length ∧ ∀ (i : Nat) (rv : ResultVar), fn.results.toList[i]? = some rv → ∃ u x, vs[i]? = some u ∧ rel ι u x ∧ xs[i]? = some x ∧ (resF a.tmps rv).run E.P w = .ok x w := by
   have : ∀ (l : List ResultVar) (us : List AV), mapR (aresult1 E fr s) l = .ok us → ∃ xs : List Value, xs.length = l.length ∧ ∀ (i : Nat) (rv : ResultVar), l[i]? = some rv → ∃ u x, us[i]? = some u ∧ rel ι u x ∧ xs[i]? = some x ∧ (resF a.tmps rv).run E.P w = .ok x w := by
    intro l
    induction l with
    | nil => intro us _; exact ⟨[], rfl, fun i rv h => by simp at h⟩
    | cons rv l ih =>
     intro us hus
     simp only [mapR] at hus
     cases h1 : aresult1 E fr s rv with
     | err c => rw [h1] at hus; cases hus
     | ok u =>
      rw [h1] at hus
      cases h2 : mapR (aresult1 E fr s) l with
      | err c => rw [h2] at hus; cases hus
      | ok us' =>
       rw [h2] at hus
       injection hus with hus; subst hus
       obtain ⟨x, hx1, hx2⟩ := hone rv u h1
       obtain ⟨xs, g1, g2⟩ := ih us' h2
       refine ⟨x :: xs, by simp [g1], fun i rv' hi => ?_⟩
       cases i with
       | zero => simp at hi; subst hi; exact ⟨u, x, by simp, hx1, by simp, hx2⟩
       | succ i => simpa using g2 i rv' (by simpa using hi)
   exact this _ vs hvs
  obtain ⟨xs, x1, x2⟩ := hex
  refine ⟨xs, relL.of (by omega) fun i u hu => ?_, ?_⟩
  ·have hlt : i < fn.results.toList.length := by have := (List.getElem?_eq_some_iff.1 hu).1; omega
   obtain ⟨u', x, e1, e2, e3, _⟩ := x2 i _ (List.getElem?_eq_getElem hlt)
   rw [hu] at e1; injection e1 with e1; subst e1
   exact ⟨x, e3, e2⟩
  ·rw [Array.mapM_eq_mapM_toList, map_eq_pure_bind]
   have := mapM_at (P := E.P) (w := w) (resF a.tmps) fn.results.toList xs x1 fun i rv hi => by
    obtain ⟨u, x, _, _, e3, e4⟩ := x2 i rv hi
    exact ⟨x, e4, e3⟩
   simp only [Sem.run_bind, this, Result.andThen_ok]
   rfl
 split at h
 ·rename_i u hu
  injection h with h; subst h
  obtain ⟨xs, k1, k2⟩ := key _ hu
  obtain ⟨x, xs', rfl, hx, hxs⟩ := k1
  have hxs : xs' = [] := hxs
  subst hxs
  refine ⟨x, hx, ?_⟩
  rw [results_eq]
  simp only [Sem.run_bind, k2, Result.andThen_ok]
  rfl
 ·rename_i us hne hu
  injection h with h; subst h
  obtain ⟨xs, k1, k2⟩ := key _ hu
  refine ⟨.tuple (List.toArray xs), ⟨xs, rfl, k1⟩, ?_⟩
  have hlen : ¬ (List.toArray xs).size = 1 := by
   intro e
   have e2 : us.length = 1 := by rw [← k1.length]; simpa using e
   obtain ⟨u, hu1⟩ := List.length_eq_one_iff.1 e2
   exact hne u (by rw [hu1])
  rw [results_eq]
  simp only [Sem.run_bind, k2, Result.andThen_ok, dif_neg hlen]
  rfl
 ·cases h
theorem callFunc_enter {f : FuncId} {fn : Func} {c : Code} (hf : E.fn.get f = some (some fn)) (hb : fn.body = some c) (args : Array Value) (w : World) : (callFunc f args).run E.P w = .ok (.enter f args) w := by
 have h1 := hE.fn f fn hf
 have h2 := hE.named f fn hf
 simp only [callFunc, program, Sem.run_bind, Sem.run, Result.andThen_ok, h1, h2, Bool.false_eq_true, if_false, hb, Option.isNone_some]
 rfl
/-- a function that was deferred, in a frame that is left -/
theorem enterD_ok {V : CodeF} (hV : ∀ c, CodeOk E V c) {f : FuncId} {args : List AV} {s : St} {l : List St} (h : enterD E V f args s = .ok l) {ι : Io} {w : World} {vs : List Value} (HR : HRel ι s w) (hv : relL ι args vs) (u : FrameMode) :
  (callFunc f (List.toArray vs)).run E.P w = .ok (.enter f (List.toArray vs)) w ∧ CallsD E.P f (List.toArray vs) u w fun e u' w' => u' = u ∧ (∃ x, e = .returned x) ∧ ∃ s' ∈ l, ∃ ι', Stp ι s w ι' s' w' := by
 unfold enterD at h
 split at h
 ·rename_i fn hfn
  split at h
  ·rename_i b hb
   rw [R.cond_ok, ble_eq] at h
   obtain ⟨g, h⟩ := h
   have g := of_decide_eq_true g
   split at h
   ·rename_i outs ho
    refine ⟨callFunc_enter hE hfn hb _ w, ?_⟩
    refine (callsD_of_wp (u := u) (R := fun e w' => (∃ x, e = .returned x) ∧ ∃ s' ∈ l, ∃ ι', Stp ι s w ι' s' w') (hE.fn f fn hfn) hb (hV b fn.ntmps _ s outs ho (hE.fit f fn b hfn hb) ι w _ (entry_rel hv g) HR _ fun p hp a' w' ι' hst hfr => ?_))
    obtain ⟨r', h1, h2⟩ := bindL_mem h p hp
    unfold doneD at h1
    split at h1
    ·cases h1
    ·rename_i hex
     split at h1
     ·rename_i hds
      split at h1
      ·rename_i v hv'
       injection h1 with h1; subst h1
       obtain ⟨x, hx, hrun⟩ := results_ok hE hfr hst.h hv'
       have hd : a'.defers = [] := by
        have := hfr.ds
        rw [hds] at this
        exact this
       have hfin : a'.defers = [] ∧ ∃ v, (results fn a'.tmps).run E.P w' = .ok v w' ∧ (∃ x, Ending.returned v = .returned x) ∧ ∃ s' ∈ l, ∃ ι', Stp ι s w ι' s' w' :=
        ⟨hd, x, hrun, ⟨x, rfl⟩, p.s, h2 _ (List.mem_singleton.2 rfl), ι', hst⟩
       cases he : p.e with
       | normal => exact hfin
       | ret => exact hfin
       | exit id => exact absurd he (hex id)
      ·cases h1
     ·cases h1
   ·cases h
  ·cases h
 ·cases h
 ·cases h
/-- the deferred calls -/
theorem defers_ok {V : CodeF} (hV : ∀ c, CodeOk E V c) (fn : Func) (tmps : Array Value) (R : Ending → World → Prop) : ∀ (ds : List AV) (s : St) (ls : List St), runDefers (enterD E V) ds s = .ok ls →
  ∀ (ι : Io) (w : World) (l : List Deferred), relD ι ds l → HRel ι s w → (∀ s' ∈ ls, ∀ ι' w', Stp ι s w ι' s' w' → ∃ v, (results fn tmps).run E.P w' = .ok v w' ∧ R (.returned v) w') → Leaves E.P fn tmps R l .returning w
 | [], s, ls, h, ι, w, l, hd, HR, hK => by
  rw [show l = [] from hd]
  injection h with h; subst h
  exact hK s (List.mem_singleton.2 rfl) ι w (Stp.refl HR)
 | .func (.func f) first captured :: r, s, ls, h, ι, w, l, hd, HR, hK => by
  obtain ⟨fi, ca, ds, rfl, h1, h2, h3⟩ := hd
  simp only [runDefers] at h
  split at h
  ·rename_i l' hl
   obtain ⟨c1, c2⟩ := enterD_ok hE hV hl HR (h1.append h2) .returning
   refine ⟨by simp, _, _, f, List.toArray (fi ++ ca), rfl, ?_, ?_⟩
   ·have e : List.toArray fi ++ List.toArray ca = List.toArray (fi ++ ca) := by simp
    simp only [invoke, e]
    exact c1
   ·refine c2.mono ?_
    rintro e u' w' ⟨rfl, ⟨x, rfl⟩, s', hs', ι', hst⟩
    obtain ⟨r', k1, k2⟩ := bindL_mem h s' hs'
    exact defers_ok hV fn tmps R r s' r' k1 ι' w' ds (h3.sub hst.sub) hst.h fun s'' hs'' ι'' w'' hst' => hK s'' (k2 s'' hs'') ι'' w'' (hst.trans hst')
  ·cases h
 | .g _ :: _, _, _, h, _, _, _, _, _, _ => by cases h
 | .ptr _ _ :: _, _, _, h, _, _, _, _, _, _ => by cases h
 | .slice .. :: _, _, _, h, _, _, _, _, _, _ => by cases h
 | .map _ :: _, _, _, h, _, _, _, _, _, _ => by cases h
 | .iface _ _ :: _, _, _, h, _, _, _, _, _, _ => by cases h
 | .agg _ :: _, _, _, h, _, _, _, _, _, _ => by cases h
 | .tuple _ :: _, _, _, h, _, _, _, _, _, _ => by cases h
 | .func (.method _) _ _ :: _, _, _, h, _, _, _, _, _, _ => by cases h
 | .func (.methodOf _ _) _ _ :: _, _, _, h, _, _, _, _, _, _ => by cases h
 | .func (.via _ _ _ _) _ _ :: _, _, _, h, _, _, _, _, _, _ => by cases h
 | .func (.yield _) _ _ :: _, _, _, h, _, _, _, _, _, _ => by cases h
/-- the contracts of a table -/
def ConsOk (C : Cons) : Prop := ∀ f k, C f = some k → ∀ args s l, k args s = .ok l → ∀ ι w vs, HRel ι s w → relL ι args vs → CallOk E f vs ι s w l
theorem tell_ok {α : Type} {f : Nat} {x : R α} {a : α} (h : tell f x = .ok a) : x = .ok a := by
 cases x with
 | ok b => exact h
 | err c => cases h
theorem call_ok {C : Cons} (hC : ConsOk (E := E) C) {V : CodeF} (hV : ∀ c, CodeOk E V c) : FOk E (callOf E C V) := by
 intro f args s l h ι w vs HR hv
 unfold callOf enter at h
 split at h
 ·rename_i k hk
  exact hC f k hk args s l h ι w vs HR hv
 ·split at h
  ·rename_i fn hfn
   split at h
   ·rename_i b hb
    rw [R.cond_ok, ble_eq] at h
    obtain ⟨g, h⟩ := h
    have g := of_decide_eq_true g
    split at h
    ·rename_i outs ho
     have h := tell_ok hE h
     refine .inr ⟨callFunc_enter hE hfn hb _ w, ?_⟩
     refine calls_of_wp_defers (hE.fn f fn hfn) hb (hV b fn.ntmps _ s outs ho (hE.fit f fn b hfn hb) ι w _ (entry_rel hv g) HR _ fun p hp a' w' ι' hst hfr => ?_)
     obtain ⟨r', h1, h2⟩ := bindL_mem h p hp
     unfold atEnd at h1
     split at h1
     ·cases h1
     ·rename_i hex
      split at h1
      ·rename_i ls hls
       have hfin : Leaves E.P fn a'.tmps (fun e w' => ∃ x, e = .returned x ∧ Ret ι s w l x w') a'.defers .returning w' := by
        refine defers_ok hE hV fn a'.tmps _ p.fr.ds p.s ls hls ι' w' a'.defers hfr.ds hst.h fun s'' hs'' ι'' w'' hst' => ?_
        obtain ⟨m1, m2⟩ := mapR_ok h1
        obtain ⟨i, hi⟩ := List.getElem?_of_mem hs''
        obtain ⟨y, y1, y2⟩ := m2 i s'' hi
        split at y1
        ·rename_i v hv'
         injection y1 with y1; subst y1
         obtain ⟨x, hx, hrun⟩ := results_ok hE (hfr.sub hst'.sub) hst'.h hv'
         exact ⟨x, hrun, x, rfl, _, h2 _ (List.mem_of_getElem? y2), ι'', hst.trans hst', hx⟩
        ·cases y1
       cases he : p.e with
       | normal => exact hfin
       | ret => exact hfin
       | exit id => exact absurd he (hex id)
      ·cases h1
    ·cases (tell_ok hE h)
   ·rename_i hb
    unfold extF at h
    split at h
    ·rename_i us hus
     split at h
     ·rename_i v hv'
      split at h
      ·rename_i a ha
       injection h with h; subst h
       have e := toGL_rel args us hus vs hv
       subst e
       exact .inl ⟨v, w, pureRun_ok _ _ _ hv' w, _, List.mem_singleton.2 rfl, ι, Stp.refl HR, ofV_rel ι 8 v a ha⟩
      ·cases h
     ·cases h
     ·cases h
    ·cases h
  ·cases h
  ·cases h
end
end Go.Ev
namespace Go.Ev
theorem ev_ok {E : Env} (hE : EnvOk E) {C : Cons} (hC : ConsOk (E := E) C) : ∀ n, (∀ c, CodeOk E (ev E C n) c) ∧ ∀ c, LoopOk E (ev E C n) c := by
 intro n
 induction n with
 | zero => exact ⟨fun c => (fun n fr s r h => by cases h), fun c => (fun n fr s r h => by cases h)⟩
 | succ n ih =>
  obtain ⟨h1, h2⟩ := ih
  have hF := call_ok hE hC h1
  exact ⟨code_step hE h1 h2 hF (drawn_ok hE hF), loop_step hE h1 h2 hF (drawn_ok hE hF)⟩
/-- the evaluator's calls are the machine's -/
theorem evCall_ok {E : Env} (hE : EnvOk E) {C : Cons} (hC : ConsOk (E := E) C) (n : Nat) : FOk E (evCall E C n) := call_ok hE hC (ev_ok hE hC n).1
end Go.Ev
