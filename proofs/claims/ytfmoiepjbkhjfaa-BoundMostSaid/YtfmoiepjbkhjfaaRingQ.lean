/- once round: the ring's points, handed out. -/
import Derived.Shelf.SlSorted.Search
import Derived.Ground.SlsoProg
import Derived.Test.YtfmoiepjbkhjfaaTailIn
import Derived.Test.YtfmoiepjbkhjfaaRingM
namespace Go.Proofs
open Go.Shelf
def Try.lSearch_ren : Go.Shelf.Ren := ⟨fun | 16 => 58 | n => n, fun | 3 => 3 | 35 => 76 | 4 => 4 | 38 => 80 | n => n, fun | n => n⟩
theorem Try.lSearch : Go.Proofs.SlLaysO.n16 Try.prog Try.lSearch_ren := {
  mixed := by kernel_rfl
  f16 := Try.func58.trans (congrArg some (by kernel_rfl))
  t3 := Try.underlying3
  a3 := Try.isAgg3
  z3 := Try.sizeOf3
  v3 := Try.zeroValue3
  t4 := Try.underlying4
  a4 := Try.isAgg4
  z4 := Try.sizeOf4
  v4 := Try.zeroValue4
  t35 := Try.underlying76
  a35 := Try.isAgg76
  z35 := Try.sizeOf76
  v35 := Try.zeroValue76
  t38 := Try.underlying80
  a38 := Try.isAgg80
  z38 := Try.sizeOf80
  v38 := Try.zeroValue80 }
end Go.Proofs
namespace Go.Proofs.Ytfmoiepjbkhjfaa
open Go.ChangeShapes Go.WideShapes Go.ChangeAt Go.RowKit Go.Sort Go.Shelf
/-- sort.Search over the points -/
theorem search_any {w : World} {b1 b2 B : Nat} {key : Int} {a : Option Addr} {cap : Nat} {P : List (Int × Int)} (hsort : P.Pairwise (fun x y => leP x y = true)) (hl : P.length ≤ 100000)
    (h1 : w.cell? ⟨b1, 0, none⟩ = some (.pointer (some ⟨B, 0, none⟩))) (h2 : w.cell? ⟨b2, 0, none⟩ = some (.int .u64 key)) (hB : w.cell? ⟨B, 0, none⟩ = some (.slice a P.length cap)) (hP : Pts w (.slice a P.length cap) P) :
    Calls Try.prog 58 #[.int .i64 P.length, .func (.func 59) #[] #[.pointer (some ⟨b1, 0, none⟩), .pointer (some ⟨b2, 0, none⟩)]] w fun e w' => e = .returned (.int .i64 (cntK key P)) ∧ ∃ q os, w' = grow (w.drewN q) os := by
  have hcnt : (List.range P.length).countP (fun i => !(!decide ((P.getD i (0, 0)).1 < key))) = cntK key P := by
    unfold cntK
    have e : P = (List.range P.length).map (fun i => P.getD i (0, 0)) := by
      apply List.ext_getElem
      · simp
      · intro i h1 h2; simp [h1]
    conv => rhs; rw [e]
    rw [List.countP_map]
    simp [Function.comp_def]
  have hext : ∀ (m : Nat) (os : Array Obj), Ext w (grow (w.drewN m) os) := fun m os => below_grown_sl _ w m os (Nat.le_refl _)
  have h := Any.sort_Search Try.lSearch 59 #[.pointer (some ⟨b1, 0, none⟩), .pointer (some ⟨b2, 0, none⟩)] P.length (fun i => !decide ((P.getD i (0, 0)).1 < key)) w
    (enters_of Try.func59 (by kernel_rfl) rfl) (by omega)
    (fun m os i hi => by
      have e := hext m os
      have c : ∀ {p : Addr} {u : Value}, w.cell? p = some u → (grow (w.drewN m) os).cell? p = some u := fun {p u} hp => (e.cell (p := p) (World.block_lt_of_cell? w _ hp)).trans hp
      refine (geq_any i hi (c h1) (c h2) (c hB) (hP.ext e)).mono ?_
      rintro e' w' ⟨rfl, q, rfl⟩
      refine ⟨by simp [hi], q, #[], by simp⟩)
    (fun x y hxy hy hp => by
      have hlt : x < P.length := by omega
      simp only [hlt, hy, List.getD_eq_getElem?_getD, List.getElem?_eq_getElem, Option.getD_some, Bool.not_eq_true', decide_eq_false_iff_not] at hp ⊢
      rcases Nat.lt_or_eq_of_le hxy with h | h
      · have := (leP_iff _ _).1 (List.pairwise_iff_getElem.1 hsort x y hlt hy h)
        omega
      · subst h; exact hp)
  rw [hcnt] at h
  exact h

/-- every block of cells but some stands -/
def KpX (S : Nat → Prop) (W W' : World) : Prop := W.heap.size ≤ W'.heap.size ∧ ∀ k c t f, W.heap[k]? = some (.cells c t f) → ¬ S k → W'.heap[k]? = some (.cells c t f)
theorem KpX.refl (S : Nat → Prop) (W : World) : KpX S W W := ⟨Nat.le_refl _, fun _ _ _ _ h _ => h⟩
theorem KpX.trans {S : Nat → Prop} {A B C : World} (h : KpX S A B) (k : KpX S B C) : KpX S A C :=
  ⟨Nat.le_trans h.1 k.1, fun i c t f hi hne => k.2 i c t f (h.2 i c t f hi hne) hne⟩
theorem KpX.grown (S : Nat → Prop) {W W' : World} {row : Option Nat} (h : W.grownBy W' row) (hr : ∀ r, row = some r → S r) : KpX S W W' :=
  ⟨h.size, fun k c t f hk hne => (h.block k (Array.getElem?_eq_some_iff.1 hk).1 (fun e => hne (hr k e.symm))).trans hk⟩
theorem KpX.alloc (S : Nat → Prop) (W : World) (o : Obj) : KpX S W (W.alloc o) :=
  ⟨by simp, fun k c t f h _ => (Below.heap_alloc W o k (Array.getElem?_eq_some_iff.1 h).1).trans h⟩
theorem KpX.setCell {S : Nat → Prop} (W : World) (u : Value) (B o : Nat) (hB : S B) : KpX S W (W.setCell ⟨B, o, none⟩ u) :=
  ⟨by simp [World.setCell], fun k c t f h hne => (Below.heap_setCell W _ u k (fun e => hne (by rw [e]; exact hB))).trans h⟩
theorem KpX.putObj (S : Nat → Prop) {W : World} {l : Nat} {o o' : Obj} (hl : W.heap[l]? = some o) (ho : o.isCells = false) : KpX S W (W.putObj l o') :=
  ⟨by simp, fun k c t f h _ => (World.putObj_heap_other (fun e => by subst e; rw [hl] at h; cases h; cases ho)).trans h⟩
theorem KpX.cell {S : Nat → Prop} {W W' : World} (h : KpX S W W') {p : Addr} {u : Value} (hp : W.cell? p = some u) (hne : ¬ S p.block) : W'.cell? p = some u := by
  unfold World.cell? at hp ⊢
  cases hb : W.heap[p.block]? with
  | none => simp [hb] at hp
  | some o =>
    cases o with
    | cells c t f => rw [h.2 _ c t f hb hne]; simpa [hb] using hp
    | _ => simp [hb] at hp
theorem grownBy_grow (W : World) (q : Nat) (os : Array Obj) : W.grownBy (grow (W.drewN q) os) none :=
  ⟨rfl, rfl, rfl, by simp [World.drewN], fun k hk _ => by
    show (W.heap ++ os)[k]? = _
    rw [Array.getElem?_append_left hk]⟩

def encY (x : Int) : Array Value := #[.int .i64 x]
def idsK (key : Int) (P : List (Int × Int)) : List Int := (rotK key P).map Prod.snd
theorem idsK_length (key : Int) (P : List (Int × Int)) (hP : P.Pairwise (fun x y => leP x y = true)) : (idsK key P).length = P.length := by rw [idsK, List.length_map, rotK_length key P hP]
theorem idsK_get (key : Int) (P : List (Int × Int)) (hP : P.Pairwise (fun x y => leP x y = true)) (i : Nat) (hi : i < P.length) (hm : (cntK key P + i) % P.length < P.length) (hi' : i < (idsK key P).length) : (idsK key P)[i] = P[(cntK key P + i) % P.length].2 := by
  have h := rotK_get key P hP i hi
  rw [List.getElem?_eq_getElem hm] at h
  have h2 : (idsK key P)[i]? = some P[(cntK key P + i) % P.length].2 := by
    rw [idsK, List.getElem?_map, h]; rfl
  rw [List.getElem?_eq_getElem hi'] at h2
  exact Option.some.inj h2
set_option maxRecDepth 100000 in
set_option maxHeartbeats 4000000 in
theorem seq_round (n : Nat) (hn : 1 ≤ n) (l b1 b2 B : Nat) (key : Int) (a : Option Addr) (cap : Nat) (P : List (Int × Int)) (S : Nat → Prop) (hsort : P.Pairwise (fun x y => leP x y = true)) (hl : P.length ≤ 100000)
    (J Jx : List Int → World → Prop) (W : World) (hJ : AbidesFrom W.heap.size J)
    (hs : ∀ W', KpX S W W' → W'.cell? ⟨b1, 0, none⟩ = some (.pointer (some ⟨B, 0, none⟩)) ∧ W'.cell? ⟨b2, 0, none⟩ = some (.int .u64 key) ∧ W'.cell? ⟨B, 0, none⟩ = some (.slice a P.length cap) ∧ Pts W' (.slice a P.length cap) P)
    (hY : ∀ pre x W1, J pre W1 → pre.length < P.length → YieldAt Fence.wide (n - 1) Try.prog l (encY x) W1 fun e W' =>
      (e = .returned (.bool true) ∧ J (pre ++ [x]) W' ∧ KpX S W1 W') ∨ (e = .returned (.bool false) ∧ Jx (pre ++ [x]) W'))
    (h0 : J [] W) :
    CallsIn Fence.wide n Try.prog 57 #[.func (.yield l) #[] #[], .pointer (some ⟨b1, 0, none⟩), .pointer (some ⟨b2, 0, none⟩)] W fun e W' => (∃ v, e = .returned v) ∧
      ((∃ ys, ys = idsK key P ∧ J ys W') ∨ (∃ pre, (∃ k, k ≤ P.length ∧ pre = (idsK key P).take k) ∧ Jx pre W')) := by
  obtain ⟨c1, c2, c3, hP⟩ := hs W (KpX.refl _ _)
  have hsearch := search_any (key := key) hsort hl c1 c2 c3 hP
  have HSE := hide hsearch; clear hsearch
  have hIL := idsK_length key P hsort
  have hcl := cntK_le key P
  have hidx : ∀ k, k < P.length → ∃ m, (cntK key P + k) % P.length = m ∧ ∃ hm : m < P.length, ∀ (h : k < (idsK key P).length), (idsK key P)[k] = P[m].2 := fun k hk =>
    ⟨_, rfl, Nat.mod_lt _ (by omega), fun h => idsK_get key P hsort k hk _ h⟩
  obtain ⟨L, hL⟩ : ∃ L, idsK key P = L := ⟨_, rfl⟩
  obtain ⟨cn, hcn⟩ : ∃ cn, cntK key P = cn := ⟨_, rfl⟩
  rw [hL, hcn] at hidx
  rw [hL] at hIL
  rw [hcn] at HSE hcl
  have HID := hide hidx
  have HS := hide hs
  have HL := hide hL
  clear hidx hs hcn hP hsort
  have hl' : (P.length : Int) ≤ 100000 := by omega
  refine callsIn_of_wp Try.func57 rfl trivial ?_ rfl
  simp only [Try.ntmps57, List.size_toArray, List.length_cons, List.length_nil, Nat.reduceAdd, Nat.reduceSub, Array.replicate_succ, Array.replicate_zero, List.push_toArray, List.append_toArray, List.nil_append, List.cons_append]
  gi_wp2_with fail
  refine ⟨trivial, (callsIn_wide.2 HSE.out).mono ?_⟩
  rintro e W1 ⟨rfl, q, os, hW1⟩
  have g1 : W.grownBy W1 none := hW1 ▸ grownBy_grow W q os
  have J1 := hJ _ _ _ none h0 g1 (fun r e => by cases e)
  have k1 : KpX S W W1 := KpX.grown S g1 (fun r e => by cases e)
  clear hW1 g1
  gi_wp2_with fail
  gi_loopw [16] (fun i wr => ∃ k : Nat, k ≤ P.length ∧ i = .int .i64 k ∧ J (L.take k) wr ∧ KpX S W wr) (fun i _ => P.length - (intOf i).toNat)
  case atStart => exact ⟨0, Nat.zero_le _, rfl, J1, k1⟩
  case round =>
    obtain ⟨k, hk, rfl, hJs, hkp⟩ := hrel
    by_cases hlt : k < P.length
    · obtain ⟨m, hm, hml, hmL⟩ := HID.out k hlt
      obtain ⟨d1, d2, d3, hP⟩ := HS.out wr hkp
      obtain ⟨b, off, rfl, hbb, _, e2⟩ := pts_at hP m hml
      have hsn : L.take (k+1) = L.take k ++ [P[m].2] := by rw [take_snoc L k (by omega), hmL (by omega)]
      have hlen : (L.take k).length < P.length := by rw [List.length_take]; omega
      obtain ⟨x, hx⟩ : ∃ x, P[m].2 = x := ⟨_, rfl⟩
      rw [hx] at e2 hsn
      have HLEN := hide hlen
      have hw1 : IntKind.i64.wrap ((cn : Int) + (k : Int)) = (cn : Int) + k := IntWalk.i64_in _ (by omega)
      have hw2 : ((cn : Int) + (k : Int)).tmod (P.length : Int) = (m : Int) := by rw [← hm, Int.natCast_emod, Int.natCast_add]; exact Int.tmod_eq_emod_of_nonneg (by omega)
      have hm0 : (0 : Int) ≤ (m : Int) := Int.natCast_nonneg _
      have hm1 : (m : Int) < (P.length : Int) := by omega
      have HSN := hide hsn
      clear hsn hmL hm hx hP hbb hlen
      gi_wp2_with fail
      refine wpIn_region_quiet_tail 13 rfl (by kernel_rfl) (by kernel_rfl) ?_
      simp only [List.take_succ_cons, List.take_zero, List.drop_succ_cons, List.drop_zero]
      repeat (gi_big_quiet_step (fail))
      refine wpQuietIn_nil ?_
      intro w6 hw6
      have g6 : wr.grownBy w6 none := by
        obtain ⟨q6, rfl⟩ := hw6
        exact ⟨rfl, rfl, rfl, Nat.le_refl _, fun _ _ _ => rfl⟩
      have hJ6 := hJ _ _ _ none hJs g6 (fun r e => by cases e)
      have k6 : KpX S wr w6 := KpX.grown S g6 (fun r e => by cases e)
      clear hw6 g6
      obtain ⟨fn, tmps, assign, body, hy, hR⟩ := hY _ x w6 hJ6 HLEN.out
      simp only [encY] at hy
      gi_wp2
      refine hR.mono ?_
      rintro e W3 (⟨rfl, hJ3, hk3⟩ | ⟨rfl, hJx3⟩)
      · gi_wp2
        go_roundw
        case rel => exact ⟨k + 1, by omega, by go_num, by rw [HSN.out]; exact hJ3, (hkp.trans k6).trans hk3⟩
        case measure => simp [intOf]; omega
      · gi_wp2
        refine bodyPost_ret (results_none rfl _ _ _) rfl ?_
        exact ⟨⟨_, rfl⟩, .inr ⟨_, ⟨k + 1, by omega, by rw [HL.out]; exact HSN.out.symm⟩, hJx3⟩⟩
    · obtain rfl : k = P.length := by omega
      gi_wp2
      go_end0
      exact ⟨⟨_, rfl⟩, .inl ⟨_, rfl, by rw [HL.out]; rwa [List.take_of_length_le (by omega)] at hJs⟩⟩
end Go.Proofs.Ytfmoiepjbkhjfaa
