import Derived.Test.YtceaeiaoanhlnaaGreatDoorGrD
namespace Go.Proofs.YtceaeiaoanhlnaaGreatDoor
open Go.ChangeShapes Go.WideShapes Go.ChangeAt Go.RowKit Go.Lib Go.Shelf
def row11 (f : Nat → Int) : List Value := (List.range 11).map fun i => Value.int .i64 (f i)
theorem row11_len (f : Nat → Int) : (row11 f).length = 11 := by simp [row11]
theorem row11_at (f : Nat → Int) {i : Nat} (hi : i < 11) : (row11 f)[i]? = some (.int .i64 (f i)) := by simp [row11, hi]
theorem row11_one (f : Nat → Int) : ∀ u ∈ row11 f, u.oneCell' = true := fun u hu => by
 obtain ⟨i, -, rfl⟩ := List.mem_map.1 hu
 rfl
theorem row11_congr {f g : Nat → Int} (h : ∀ i, i < 11 → f i = g i) : row11 f = row11 g := by
 unfold row11
 exact List.map_congr_left fun i hi => by rw [h i (List.mem_range.1 hi)]
theorem Tryz.desc11a : (Tryz.prog.underlying 74).map TypeDesc.isRow = some true := by kernel_rfl
theorem Tryz.desc11 : ∃ d, Tryz.prog.underlying 74 = some d ∧ d.isRow = true := by
 have h := Tryz.desc11a
 cases hu : Tryz.prog.underlying 74 with
 | none => rw [hu] at h; cases h
 | some d => rw [hu] at h; exact ⟨d, rfl, by simpa using h⟩
theorem Tryz.size11 : (Tryz.prog.info? 74).map (·.size) = some 11 := by kernel_rfl
theorem alloc11 (w : World) : (Instr.alloc 74 true (.tuple #[])).run Tryz.prog w = .ok (.pointer (some ⟨w.heap.size, 0, none⟩)) (w.alloc (.cells #[.int .i64 0, .int .i64 0, .int .i64 0, .int .i64 0, .int .i64 0, .int .i64 0, .int .i64 0, .int .i64 0, .int .i64 0, .int .i64 0, .int .i64 0] 74)) := by kernel_rfl
theorem Tryz.und11 : Tryz.prog.underlying 74 = some (.array 11 3) := by kernel_rfl
@[go_sem] theorem index11 (b i : Nat) (w : World) (h : (i : Int) < 11) : (Instr.indexAt 74 (.pointer (some ⟨b, 0, none⟩)) (.int .i64 (i : Int))).run Tryz.prog w = .ok (.pointer (some ⟨b, i, none⟩)) w := by
  have hz : (Go.sizeOf 3).run Tryz.prog w = .ok 1 w := by kernel_rfl
  have h1 : (0 : Int) ≤ i ∧ (i : Int) < 11 := ⟨by omega, h⟩
  have hu := Tryz.und11
  have hi : i < 11 := by omega
  simp [Instr.indexAt, asIntOf, Go.underlying, Instr.sureAddr, hu, h1, hz, Addr.add]
  rw [if_pos hi]
  split
  ·rename_i e
   subst e
   rfl
  ·rfl
/-- an array of eleven numbers in a box -/
def Arr11 (w : World) (b : Nat) (f : Nat → Int) : Prop := w.heap[b]? = some (.cells (row11 f).toArray 74 (0, 0))
theorem Arr11.lt {w : World} {b : Nat} {f : Nat → Int} (h : Arr11 w b f) : b < w.heap.size := (Array.getElem?_eq_some_iff.1 h).1
theorem Arr11.ext {w w' : World} {b : Nat} {f : Nat → Int} (h : Arr11 w b f) (e : Ext w w') : Arr11 w' b f := (e.block b h.lt).trans h
theorem Arr11.cell {w : World} {b : Nat} {f : Nat → Int} (h : Arr11 w b f) {i : Nat} (hi : i < 11) : w.cell? ⟨b, i, none⟩ = some (.int .i64 (f i)) := by
 unfold Arr11 at h
 simp only [World.cell?, h]
 simpa using row11_at f hi
theorem Arr11.frozen {w : World} {b : Nat} {f : Nat → Int} (h : Arr11 w b f) (i : Nat) : w.frozen? ⟨b, i, none⟩ = false := by
 unfold Arr11 at h
 simp only [World.frozen?, h]
 simp
theorem Arr11.range {w : World} {b : Nat} {f : Nat → Int} (h : Arr11 w b f) : w.rangeAt b 0 (row11 f) := fun j v hv => by
 rw [Nat.zero_add]
 unfold Arr11 at h
 simp only [World.cell?, h]
 simpa using hv
theorem Arr11.there {w : World} {b : Nat} {f : Nat → Int} (h : Arr11 w b f) : w.there b 0 11 := fun q hq => by
 rw [Nat.zero_add]
 exact ⟨by rw [h.cell hq]; simp, h.frozen q⟩
theorem Arr11.congr {w : World} {b : Nat} {f g : Nat → Int} (h : Arr11 w b f) (e : ∀ i, i < 11 → f i = g i) : Arr11 w b g := by
 unfold Arr11 at h ⊢
 rw [← row11_congr e]
 exact h
theorem Arr11.set {w : World} {b : Nat} {f : Nat → Int} (h : Arr11 w b f) (i : Nat) (z : Int) : Arr11 (w.setCell ⟨b, i, none⟩ (.int .i64 z)) b (fun j => if j = i then z else f j) := by
 have h1 := ArrB.set h i (.int .i64 z)
 have e : (row11 f).toArray.setIfInBounds i (.int .i64 z) = (row11 (fun j => if j = i then z else f j)).toArray := by
  apply Array.ext_getElem?
  intro j
  by_cases hj : j < 11
  ·rw [Array.getElem?_setIfInBounds]
   by_cases hij : i = j
   ·subst hij
    have : i < (row11 f).toArray.size := by simp [row11]; omega
    simp [row11, hj]
   ·have hji : ¬ j = i := fun e => hij e.symm
    simp [hij, row11, hj, hji]
  ·rw [Array.getElem?_eq_none (by simp [row11]; omega), Array.getElem?_eq_none (by simp [row11]; omega)]
 unfold Arr11
 rw [← e]
 exact h1
theorem Arr11.store {w : World} {b : Nat} {f : Nat → Int} (h : Arr11 w b f) (g : Nat → Int) : Arr11 (w.setCells b 0 (row11 g)) b g := by
 have hrs := World.rangeAt_setCells_same w b 0 (row11 g) (by rw [row11_len]; exact h.there)
 obtain ⟨cs, h1, h2⟩ := setCells_block b 74 (0, 0) (row11 g) 0 w _ h
 have e : cs = (row11 g).toArray := by
  apply Array.ext_getElem?
  intro j
  by_cases hj : j < 11
  ·have := hrs j (.int .i64 (g j)) (row11_at g hj)
   rw [Nat.zero_add] at this
   simp only [World.cell?, h1] at this
   exact (by simpa using this : cs[j]? = some (.int .i64 (g j))).trans (by simpa using (row11_at g hj).symm)
  ·rw [Array.getElem?_eq_none (by rw [h2]; simp [row11]; omega), Array.getElem?_eq_none (by simp [row11]; omega)]
 unfold Arr11
 rw [← e]
 exact h1
theorem Arr11.other {w w' : World} {X : Nat → Prop} {b : Nat} {f : Nat → Int} (h : Arr11 w b f) (k : Keeps X w w') (hn : ¬ X b) : Arr11 w' b f := (k.block b h.lt hn).trans h
theorem KidsO.to {B : Nat} {w w' : World} {v : Value} {K : List (List Int)} (h : KidsO B w v K) (e : Ext w w') : KidsO B w' v K := by
 obtain ⟨vs, h1, h2⟩ := h
 exact ⟨vs, owns_ext h1 e, h2.to e⟩
theorem KidsO.keepT {B : Nat} {w w' : World} {X : Nat → Prop} {T : TypeId} {v : Value} {K : List (List Int)} (h : KidsO B w v K) (k : Keeps X w w') (hX : OfT w X T) (h1 : T ≠ 22) (h2 : T ≠ 3) : KidsO B w' v K := by
 obtain ⟨vs, a, b⟩ := h
 exact ⟨vs, owns_keepT a k hX h1, b.keepT k hX h2⟩
theorem KidsO.monoG {B B' : Nat} {w : World} {v : Value} {K : List (List Int)} (h : KidsO B w v K) (hB : B' ≤ B) : KidsO B' w v K := by
 obtain ⟨vs, a, b⟩ := h
 exact ⟨vs, owns_monoG a hB, b.monoG hB⟩
/-- what levels has while it counts: the result's box, its own one, the kids of the first services -/
structure LV (W w : World) (b6 b7 : Nat) (f : Nat → Int) (v8 : Value) (K : Nat → List (List Int)) (m : Nat) : Prop where
 ext : Ext W w
 g6 : W.heap.size ≤ b6
 g7 : W.heap.size ≤ b7
 ne : b6 ≠ b7
 r6 : Arr11 w b6 (fun _ => 0)
 r7 : Arr11 w b7 f
 row : ∃ vs, w.ownsRow W.heap.size 33 1 v8 m vs ∧ ∀ j, j < m → ∃ v, vs[j]? = some v ∧ KidsO W.heap.size w v (K j)
theorem LV.to {W w w' : World} {b6 b7 m : Nat} {f : Nat → Int} {v8 : Value} {K : Nat → List (List Int)} (h : LV W w b6 b7 f v8 K m) (e : Ext w w') : LV W w' b6 b7 f v8 K m := by
 obtain ⟨vs, h1, h2⟩ := h.row
 exact ⟨h.ext.trans e, h.g6, h.g7, h.ne, h.r6.ext e, h.r7.ext e, vs, owns_ext h1 e, fun j hj => by obtain ⟨v, a, b⟩ := h2 j hj; exact ⟨v, a, b.to e⟩⟩
/-- a box of the call's own, that is none of these, is written -/
theorem LV.keep {W w w' : World} {b6 b7 m g : Nat} {f : Nat → Int} {v8 : Value} {K : Nat → List (List Int)} (h : LV W w b6 b7 f v8 K m) (k : Keeps (fun q => q = g) w w') (hg : W.heap.size ≤ g) (hof : OfT w (fun q => q = g) 74) (h6 : ¬ b6 = g) (h7 : ¬ b7 = g) : LV W w' b6 b7 f v8 K m := by
 obtain ⟨vs, h1, h2⟩ := h.row
 exact ⟨Keeps.ext h.ext k (fun q hq => by rw [hq]; exact hg), h.g6, h.g7, h.ne, h.r6.other k h6, h.r7.other k h7, vs, owns_keepT h1 k hof (by decide), fun j hj => by obtain ⟨v, a, b⟩ := h2 j hj; exact ⟨v, a, b.keepT k hof (by decide) (by decide)⟩⟩
theorem LV.set7 {W w : World} {b6 b7 m : Nat} {f : Nat → Int} {v8 : Value} {K : Nat → List (List Int)} (h : LV W w b6 b7 f v8 K m) (i : Nat) (z : Int) : LV W (w.setCell ⟨b7, i, none⟩ (.int .i64 z)) b6 b7 (fun j => if j = i then z else f j) v8 K m := by
 have k := Keeps.of_set (X := fun q => q = b7) w b7 i (.int .i64 z) rfl
 have hof : OfT w (fun q => q = b7) 74 := OfT.one h.r7
 obtain ⟨vs, h1, h2⟩ := h.row
 exact ⟨Keeps.ext h.ext k (fun q hq => by rw [hq]; exact h.g7), h.g6, h.g7, h.ne, h.r6.other k h.ne, h.r7.set i z, vs, owns_keepT h1 k hof (by decide), fun j hj => by obtain ⟨v, a, b⟩ := h2 j hj; exact ⟨v, a, b.keepT k hof (by decide) (by decide)⟩⟩
theorem LV.congr {W w : World} {b6 b7 m : Nat} {f g : Nat → Int} {v8 : Value} {K : Nat → List (List Int)} (h : LV W w b6 b7 f v8 K m) (e : ∀ i, i < 11 → f i = g i) : LV W w b6 b7 g v8 K m := ⟨h.ext, h.g6, h.g7, h.ne, h.r6, h.r7.congr e, h.row⟩
/-- the kids of one service more -/
theorem LV.add {W w w' : World} {b6 b7 m : Nat} {f : Nat → Int} {v8 v' u : Value} {K : Nat → List (List Int)} {vs : List Value} (h : LV W w b6 b7 f v8 K m) (h1 : w.ownsRow W.heap.size 33 1 v8 m vs) (h2 : ∀ j, j < m → ∃ v, vs[j]? = some v ∧ KidsO W.heap.size w v (K j)) (hl : vs.length = m) (hu : KidsO W.heap.size w u (K m)) (k : Keeps (fun q => v8.ownBlock = some q) w w') (ho : w'.ownsRow W.heap.size 33 1 v' (m + 1) (vs ++ [u])) : LV W w' b6 b7 f v' K (m + 1) := by
 have hof := OfT.own h1
 have hn : ∀ b g, Arr11 w b g → ¬ v8.ownBlock = some b := fun b g hb e => by
  obtain ⟨cs, fz, hc⟩ := hof b e
  unfold Arr11 at hb
  rw [hc] at hb
  injection hb with hb
  injection hb with a1 a2 a3
  exact absurd a2 (by decide)
 refine ⟨Keeps.ext h.ext k fun q hq => (h1.lt q hq).1, h.g6, h.g7, h.ne, h.r6.other k (hn b6 _ h.r6), h.r7.other k (hn b7 _ h.r7), vs ++ [u], ho, fun j hj => ?_⟩
 by_cases hjm : j < m
 ·obtain ⟨v, a, b⟩ := h2 j hjm
  exact ⟨v, by rw [List.getElem?_append_left (by omega)]; exact a, b.keepT k hof (by decide) (by decide)⟩
 ·obtain rfl : j = m := by omega
  exact ⟨u, by rw [List.getElem?_append_right (by omega), hl, Nat.sub_self]; rfl, hu.keepT k hof (by decide) (by decide)⟩
/-- one cell is written, behind all that it waits for -/
def PhC1 (W : World) (q : Addr) (v : Value) : List Value → World → Prop
 | [], w' => Ext W w'
 | _ :: _, w' => ∃ w8, Ext W w8 ∧ Ext (w8.setCell q v) w'
theorem PhC1.keep {W : World} {q : Addr} {v : Value} : ∀ {vs : List Value} {w' w'' : World}, PhC1 W q v vs w' → Ext w' w'' → PhC1 W q v vs w''
 | [], _, _, h, e => Ext.trans h e
 | _ :: _, _, _, ⟨w8, h1, h2⟩, e => ⟨w8, h1, h2.trans e⟩
theorem PhC1.x {W : World} {q : Addr} {v : Value} {vs : List Value} {w' : World} (h : PhC1 W q v vs w') (hl : vs.length ≤ 0) : Ext W w' := by
 rcases vs with _ | ⟨u, vs⟩
 ·exact h
 ·simp at hl
/-- .. and the boxes of this level and of the next one -/
structure LN (W w : World) (b6 b7 b10 b12 : Nat) (f0 f g : Nat → Int) (v8 : Value) (K : Nat → List (List Int)) : Prop where
 lv : LV W w b6 b7 f0 v8 K 11
 gA : W.heap.size ≤ b10
 gB : W.heap.size ≤ b12
 nA : b6 ≠ b10 ∧ b7 ≠ b10
 nB : b6 ≠ b12 ∧ b7 ≠ b12 ∧ b10 ≠ b12
 rA : Arr11 w b10 f
 rB : Arr11 w b12 g
theorem LN.to {W w w' : World} {b6 b7 b10 b12 : Nat} {f0 f g : Nat → Int} {v8 : Value} {K : Nat → List (List Int)} (h : LN W w b6 b7 b10 b12 f0 f g v8 K) (e : Ext w w') : LN W w' b6 b7 b10 b12 f0 f g v8 K := ⟨h.lv.to e, h.gA, h.gB, h.nA, h.nB, h.rA.ext e, h.rB.ext e⟩
theorem LN.put {W w : World} {b6 b7 b10 b12 : Nat} {f0 f g : Nat → Int} {v8 : Value} {K : Nat → List (List Int)} (h : LN W w b6 b7 b10 b12 f0 f g v8 K) (i : Nat) (z : Int) : LN W (w.setCell ⟨b12, i, none⟩ (.int .i64 z)) b6 b7 b10 b12 f0 f (fun j => if j = i then z else g j) v8 K := by
 have k := Keeps.of_set (X := fun q => q = b12) w b12 i (.int .i64 z) rfl
 exact ⟨h.lv.keep k h.gB (OfT.one h.rB) h.nB.1 h.nB.2.1, h.gA, h.gB, h.nA, h.nB, h.rA.other k h.nB.2.2, h.rB.set i z⟩
theorem LN.congr {W w : World} {b6 b7 b10 b12 : Nat} {f0 f g g2 : Nat → Int} {v8 : Value} {K : Nat → List (List Int)} (h : LN W w b6 b7 b10 b12 f0 f g v8 K) (e : ∀ i, i < 11 → g i = g2 i) : LN W w b6 b7 b10 b12 f0 f g2 v8 K := ⟨h.lv, h.gA, h.gB, h.nA, h.nB, h.rA, h.rB.congr e⟩
set_option maxRecDepth 100000 in
/-- two numbers together, at most Most -/
theorem rsum33_any (a b : Int) (w : World) (ha : 0 ≤ a ∧ a ≤ mostN) (hb : 0 ≤ b ∧ b ≤ mostN) : Calls Tryz.prog 66 #[.int .i64 a, .int .i64 b] w fun e w' => e = .returned (.int .i64 (sumM a b)) ∧ w = w' := by
 have hm : mostN = 4611686018427387903 := rfl
 have hw : IntKind.i64.wrap (a + b) = a + b := by rw [IntKind.wrap_i64]; omega
 go_enter Tryz.func66, Tryz.ntmps66
 go_wp2
 go_ret
 exact ⟨rfl, rfl⟩
set_option maxRecDepth 100000 in
set_option maxHeartbeats 4000000 in
/-- the greatest number of some services -/
theorem rgreat_any (f : Nat → Int) (l : List Int) (v : Value) (w : World) (hs : Ints w v l) (hl : ∀ x ∈ l, 1 ≤ x ∧ x ≤ 10) : Calls Tryz.prog 67 #[.agg (row11 f).toArray, v] w fun e w' => e = .returned (.int .i64 (great l (fun x => f x.toNat))) ∧ Ext w w' := by
 have hx : Ext w (w.alloc (.cells (row11 f).toArray 74)) := (Below.refl _ _).alloc (Nat.le_refl _) _
 have hb1 : Arr11 (w.alloc (.cells (row11 f).toArray 74)) w.heap.size f := heap_alloc_new w (.cells (row11 f).toArray 74)
 obtain ⟨hll, a, cap, rfl⟩ := hs.shape
 have HS := hide (hs.ext hx)
 have HLL := hide hll
 have HL := hide hl
 clear hs hll hl
 go_enter Tryz.func67, Tryz.ntmps67
 go_upto_region 1 with (fail)
 show Code.wp _ _ _ _ (w.alloc (.cells (row11 f).toArray 74))
 generalize w.alloc (.cells (row11 f).toArray 74) = W at hx hb1 HS ⊢
 obtain ⟨b2, hb2⟩ : ∃ b, w.heap.size = b := ⟨_, rfl⟩
 rw [hb2] at hb1 ⊢
 have HX := hide hx
 have HB := hide hb1
 clear hx hb1 hb2
 go_wp2_with fail
 go_loopw [5, 6] (fun v5 v6 wr => ∃ k : Nat, k ≤ l.length ∧ v6 = .int .i64 k ∧ v5 = .int .i64 (great (l.take k) (fun x => f x.toNat)) ∧ wr = W) (fun _ k _ => l.length - (intOf k).toNat)
 case atStart => exact ⟨0, Nat.zero_le _, rfl, rfl, rfl⟩
 case round =>
  obtain ⟨k, hk, rfl, rfl, rfl⟩ := hrel
  by_cases hlt : k < l.length
  ·have hltz : (k : Int) < l.length := by omega
   have hwk : IntKind.i64.wrap ((k : Int) + 1) = ((k + 1 : Nat) : Int) := by have := HLL.out; rw [IntKind.wrap_i64]; omega
   obtain ⟨rb, ro, rfl, -, hc⟩ := ints_row HS.out k hlt
   have hb := HL.out l[k] (List.getElem_mem hlt)
   have hsn : great (l.take (k + 1)) (fun x => f x.toNat) = max (great (l.take k) (fun x => f x.toNat)) (f l[k].toNat) := by
    unfold great
    rw [take_snoc l k hlt, List.foldl_append]
    rfl
   generalize great (l.take k) (fun x => f x.toNat) = m at hsn ⊢
   generalize l[k] = x at hc hb hsn
   obtain ⟨q, rfl⟩ : ∃ q : Nat, x = q := ⟨x.toNat, by omega⟩
   have hq : q < 11 := by omega
   have hqz : (q : Int) < 11 := by omega
   have hcc := HB.out.cell hq
   rw [Int.toNat_natCast] at hsn
   generalize f q = y at hsn hcc
   have HSN := hide hsn
   clear hsn hb
   go_wp2
   go_roundw
   case rel => exact ⟨k + 1, hlt, by go_num, by rw [HSN.out], by first | rfl | trivial⟩
   case measure => simp [intOf] <;> omega
  ·obtain rfl : k = l.length := by omega
   have hltz : ¬ (l.length : Int) < l.length := by omega
   rw [List.take_length]
   go_wp2
   go_ret
   exact ⟨rfl, HX.out⟩
theorem gInfoK : (Tryz.prog.info? 33).map (fun i => (i.size, i.bytes, i.zero.map fun z => z.cells.size)) = some (1, 24, some 1) := by kernel_rfl
/-- own, while the services are counted -/
def ownTo (tgt : Int) (m i : Nat) : Int := if i < m then selfN i tgt else 0
/-- next, while it is counted: of the first services, and of the m-th one's first calls -/
def nextTo (K : Int → List (List Int)) (tgt : Int) (k m : Nat) (p : Nat) (i : Nat) : Int := if i < m then lvl K tgt (k + 1) i else if i = m then stpN ((K m).take p) (selfN m tgt) (lvl K tgt k) else selfN i tgt
theorem frame67 (x : Nat → Value) : frameOf 67 x = #[x 0, x 1, x 2, x 3, x 4, x 5, x 6, x 7, x 8, x 9, x 10, x 11, x 12, x 13, x 14, x 15, x 16, x 17, x 18, x 19, x 20, x 21, x 22, x 23, x 24, x 25, x 26, x 27, x 28, x 29, x 30, x 31, x 32, x 33, x 34, x 35, x 36, x 37, x 38, x 39, x 40, x 41, x 42, x 43, x 44, x 45, x 46, x 47, x 48, x 49, x 50, x 51, x 52, x 53, x 54, x 55, x 56, x 57, x 58, x 59, x 60, x 61, x 62, x 63, x 64, x 65, x 66] := rfl
set_option maxRecDepth 100000 in
set_option maxHeartbeats 16000000 in
/-- of each service from 0 to 10 its walks, of a depth -/
theorem levels_any (c : ConfD) (tgt : Int) (d : Nat) (w : World) (h : GC w c) (hd : d ≤ 1000000) :
  Calls Tryz.prog 35 #[.agg (encC c).toArray, .int .i64 tgt, .int .i64 (d : Int)] w fun e w' => e = .returned (.agg (row11 (fun i => lvl (kidsG c) tgt d i)).toArray) ∧ Ext w w' := by
 obtain ⟨cd, hcd1, hcd2⟩ := Tryz.confDesc
 obtain ⟨ad, had1, had2⟩ := Tryz.desc11
 have hx : Ext w (w.alloc (.cells (encC c).toArray 30)) := (Below.refl _ _).alloc (Nat.le_refl _) _
 have hb1 : BoxC (w.alloc (.cells (encC c).toArray 30)) w.heap.size c := heap_alloc_new w (.cells (encC c).toArray 30)
 have HG := hide (h.ext hx)
 have HD := hide hd
 clear h hd
 go_enter Tryz.func35, Tryz.ntmps35
 go_upto_region 2 with (fail)
 have e0 : (#[.int .i64 0, .int .i64 0, .int .i64 0, .int .i64 0, .int .i64 0, .int .i64 0, .int .i64 0, .int .i64 0, .int .i64 0, .int .i64 0, .int .i64 0] : Array Value) = (row11 fun _ => 0).toArray := rfl
 have hlv : LV (w.alloc (.cells (encC c).toArray 30)) (((w.alloc (.cells (encC c).toArray 30)).alloc (.cells #[.int .i64 0, .int .i64 0, .int .i64 0, .int .i64 0, .int .i64 0, .int .i64 0, .int .i64 0, .int .i64 0, .int .i64 0, .int .i64 0, .int .i64 0] 74)).alloc (.cells #[.int .i64 0, .int .i64 0, .int .i64 0, .int .i64 0, .int .i64 0, .int .i64 0, .int .i64 0, .int .i64 0, .int .i64 0, .int .i64 0, .int .i64 0] 74)) (w.alloc (.cells (encC c).toArray 30)).heap.size ((w.alloc (.cells (encC c).toArray 30)).alloc (.cells #[.int .i64 0, .int .i64 0, .int .i64 0, .int .i64 0, .int .i64 0, .int .i64 0, .int .i64 0, .int .i64 0, .int .i64 0, .int .i64 0, .int .i64 0] 74)).heap.size (ownTo tgt 0) (.slice none 0 0) (fun j => kidsG c j) 0 := by
  have x1 : Ext (w.alloc (.cells (encC c).toArray 30)) ((w.alloc (.cells (encC c).toArray 30)).alloc (.cells #[.int .i64 0, .int .i64 0, .int .i64 0, .int .i64 0, .int .i64 0, .int .i64 0, .int .i64 0, .int .i64 0, .int .i64 0, .int .i64 0, .int .i64 0] 74)) := (Below.refl _ _).alloc (Nat.le_refl _) _
  have x2 : Ext ((w.alloc (.cells (encC c).toArray 30)).alloc (.cells #[.int .i64 0, .int .i64 0, .int .i64 0, .int .i64 0, .int .i64 0, .int .i64 0, .int .i64 0, .int .i64 0, .int .i64 0, .int .i64 0, .int .i64 0] 74)) (((w.alloc (.cells (encC c).toArray 30)).alloc (.cells #[.int .i64 0, .int .i64 0, .int .i64 0, .int .i64 0, .int .i64 0, .int .i64 0, .int .i64 0, .int .i64 0, .int .i64 0, .int .i64 0, .int .i64 0] 74)).alloc (.cells #[.int .i64 0, .int .i64 0, .int .i64 0, .int .i64 0, .int .i64 0, .int .i64 0, .int .i64 0, .int .i64 0, .int .i64 0, .int .i64 0, .int .i64 0] 74)) := (Below.refl _ _).alloc (Nat.le_refl _) _
  have h6 : Arr11 ((w.alloc (.cells (encC c).toArray 30)).alloc (.cells #[.int .i64 0, .int .i64 0, .int .i64 0, .int .i64 0, .int .i64 0, .int .i64 0, .int .i64 0, .int .i64 0, .int .i64 0, .int .i64 0, .int .i64 0] 74)) (w.alloc (.cells (encC c).toArray 30)).heap.size (fun _ => 0) := heap_alloc_new _ _
  have h7 : Arr11 (((w.alloc (.cells (encC c).toArray 30)).alloc (.cells #[.int .i64 0, .int .i64 0, .int .i64 0, .int .i64 0, .int .i64 0, .int .i64 0, .int .i64 0, .int .i64 0, .int .i64 0, .int .i64 0, .int .i64 0] 74)).alloc (.cells #[.int .i64 0, .int .i64 0, .int .i64 0, .int .i64 0, .int .i64 0, .int .i64 0, .int .i64 0, .int .i64 0, .int .i64 0, .int .i64 0, .int .i64 0] 74)) ((w.alloc (.cells (encC c).toArray 30)).alloc (.cells #[.int .i64 0, .int .i64 0, .int .i64 0, .int .i64 0, .int .i64 0, .int .i64 0, .int .i64 0, .int .i64 0, .int .i64 0, .int .i64 0, .int .i64 0] 74)).heap.size (ownTo tgt 0) := heap_alloc_new ((w.alloc (.cells (encC c).toArray 30)).alloc (.cells #[.int .i64 0, .int .i64 0, .int .i64 0, .int .i64 0, .int .i64 0, .int .i64 0, .int .i64 0, .int .i64 0, .int .i64 0, .int .i64 0, .int .i64 0] 74)) (.cells #[.int .i64 0, .int .i64 0, .int .i64 0, .int .i64 0, .int .i64 0, .int .i64 0, .int .i64 0, .int .i64 0, .int .i64 0, .int .i64 0, .int .i64 0] 74)
  exact ⟨x1.trans x2, Nat.le_refl _, x1.size, by have := h6.lt; omega, h6.ext x2, h7, [], World.ownsRow_nil _ _ _ _, fun j hj => absurd hj (Nat.not_lt_zero _)⟩
 show Code.wp _ _ _ _ (((w.alloc (.cells (encC c).toArray 30)).alloc (.cells #[.int .i64 0, .int .i64 0, .int .i64 0, .int .i64 0, .int .i64 0, .int .i64 0, .int .i64 0, .int .i64 0, .int .i64 0, .int .i64 0, .int .i64 0] 74)).alloc (.cells #[.int .i64 0, .int .i64 0, .int .i64 0, .int .i64 0, .int .i64 0, .int .i64 0, .int .i64 0, .int .i64 0, .int .i64 0, .int .i64 0, .int .i64 0] 74))
 generalize ((w.alloc (.cells (encC c).toArray 30)).alloc (.cells #[.int .i64 0, .int .i64 0, .int .i64 0, .int .i64 0, .int .i64 0, .int .i64 0, .int .i64 0, .int .i64 0, .int .i64 0, .int .i64 0, .int .i64 0] 74)).alloc (.cells #[.int .i64 0, .int .i64 0, .int .i64 0, .int .i64 0, .int .i64 0, .int .i64 0, .int .i64 0, .int .i64 0, .int .i64 0, .int .i64 0, .int .i64 0] 74) = W2 at hlv ⊢
 have s1 : (w.alloc (.cells (encC c).toArray 30)).heap.size = w.heap.size + 1 := Array.size_push ..
 have s2 : ((w.alloc (.cells (encC c).toArray 30)).alloc (.cells #[.int .i64 0, .int .i64 0, .int .i64 0, .int .i64 0, .int .i64 0, .int .i64 0, .int .i64 0, .int .i64 0, .int .i64 0, .int .i64 0, .int .i64 0] 74)).heap.size = w.heap.size + 1 + 1 := (Array.size_push ..).trans (by rw [s1])
 rw [s2, s1] at hlv
 obtain ⟨b7, hb7⟩ : ∃ b, w.heap.size + 1 + 1 = b := ⟨_, rfl⟩
 obtain ⟨b6, hb6⟩ : ∃ b, w.heap.size + 1 = b := ⟨_, rfl⟩
 rw [hb7, hb6] at hlv
 rw [hb7, hb6]
 clear e0 s1 s2 hb7 hb6
 generalize w.alloc (.cells (encC c).toArray 30) = W at hx hb1 HG hlv ⊢
 obtain ⟨b3, hb3⟩ : ∃ b, w.heap.size = b := ⟨_, rfl⟩
 rw [hb3] at hb1 ⊢
 have HX := hide hx
 have HBX := hide (fun X (hX : Ext W X) => BoxC.ext hb1 hX)
 have HLV0 := hide hlv
 clear hx hb1 hb3 hlv
 go_wp2_with fail
 go_loopw [8, 9] (fun v8 v9 wr => ∃ i : Nat, i ≤ 11 ∧ v9 = .int .i64 i ∧ Hid (LV W wr b6 b7 (ownTo tgt i) v8 (fun j => kidsG c j) i)) (fun _ i _ => 12 - (intOf i).toNat)
 case atStart => exact ⟨0, Nat.zero_le _, rfl, hide HLV0.out⟩
 case round =>
  obtain ⟨i, hi, rfl, hlv⟩ := hrel
  have HL := hide hlv.out
  clear hlv
  by_cases hlt : i < 11
  ·have hltz : (i : Int) ≤ 10 := by omega
   have hltz2 : (i : Int) < 11 := by omega
   have hwi : IntKind.i64.wrap ((i : Int) + 1) = ((i + 1 : Nat) : Int) := by rw [IntKind.wrap_i64]; omega
   obtain ⟨vs0, hr0, -⟩ := HL.out.row
   obtain ⟨ka, kc, rfl⟩ := owns_shape hr0
   clear hr0
   go_upto_if 21 with (fail)
   go_cut [] from 19 to 23 (fun w' => Hid (LV W w' b6 b7 (ownTo tgt (i + 1)) (.slice ka i kc) (fun j => kidsG c j) i))
   case first =>
    by_cases he : (i : Int) = tgt
    ·have heb : ((i : Int) == tgt) = true := by simp [he]
     have y1 := HL.out.r7.cell hlt
     have y2 := HL.out.r7.frozen i
     have HN := hide ((HL.out.set7 i 1).congr (g := ownTo tgt (i + 1)) fun j hj => by
      unfold ownTo
      by_cases hji : j = i
      ·subst hji
       rw [if_pos rfl, if_pos (by omega)]
       unfold selfN
       rw [if_pos he]
      ·rw [if_neg hji]
       by_cases hj2 : j < i
       ·rw [if_pos hj2, if_pos (by omega)]
       ·rw [if_neg hj2, if_neg (by omega)])
     clear he
     go_wp2
     go_meet
     case rel => exact hide HN.out
    ·have heb : ((i : Int) == tgt) = false := by simp [he]
     have HN := hide (HL.out.congr (g := ownTo tgt (i + 1)) fun j hj => by
      unfold ownTo
      by_cases hji : j = i
      ·subst hji
       rw [if_neg (by omega), if_pos (by omega)]
       unfold selfN
       rw [if_neg he]
      ·by_cases hj2 : j < i
       ·rw [if_pos hj2, if_pos (by omega)]
       ·rw [if_neg hj2, if_neg (by omega)])
     clear he
     go_wp2
     go_meet
     case rel => exact hide HN.out
   case rest =>
    have HL1 := hide hcut.out
    clear hcut
    have hbx := HBX.out wc HL1.out.ext
    go_upto_region 8 with (fail)
    refine wp_region_lit ?_
    refine wpList_plain rfl fun Kq hKq => ?_
    go_simp
    refine hKq _ _ ?_
    clear hKq Kq
    refine wpList_load_mid rfl 30 (.tmp 3) rfl b3 0 rfl (encC c) cd hbx.range hcd1 hcd2 Tryz.confSize ?_
    refine wpList_plain rfl fun Kq hKq => ?_
    go_simp
    refine hKq _ _ ?_
    clear hKq Kq
    refine wpList_plain rfl fun Kq hKq => ?_
    go_simp
    refine (rkids_own c i wc (HG.out.ext HL1.out.ext)).mono ?_
    rintro e w5 ⟨v5, rfl, hk5, E5⟩
    obtain ⟨ua, uc, rfl⟩ : ∃ a cc, v5 = .slice a (kidsG c i).length cc := by
     obtain ⟨vs, h1, -⟩ := hk5
     exact owns_shape h1
    refine hKq _ _ ?_
    clear hKq Kq
    have HL6 := hide (HL1.out.to E5)
    have HK6 := hide (hk5.monoG HL1.out.ext.size)
    clear hk5 E5 hbx
    refine wpList_plain rfl fun Kq hKq => ?_
    go_simp
    refine hKq _ _ ?_
    clear hKq Kq
    obtain ⟨vs, h1, h2⟩ := HL6.out.row
    have hvl : vs.length = i := by
     have := h1.1
     omega
    have H1 := hide h1
    have H2 := hide h2
    clear h1 h2
    refine wpList_app1 rfl (.tmp 24) (.tmp 28) _ 33 rfl Tryz.underlying113 gInfoK (by decide) (by decide) W.heap.size _ i vs rfl H1.out [.slice ua (kidsG c i).length uc] rfl (by simp [Value.oneCell']) rfl (by omega) HL6.out.ext.size ?_
    intro v' w7 ho7 hk7 hp7
    have HL7 := hide (HL6.out.add H1.out H2.out hvl HK6.out hk7 ho7)
    obtain ⟨za, zc, rfl⟩ := owns_shape ho7
    clear ho7 hk7 hp7
    refine wpList_plain rfl fun Kq hKq => ?_
    go_simp
    refine hKq _ _ ?_
    clear hKq Kq
    refine wpList_nil ?_
    go_wp2
    go_roundw
    case rel => exact ⟨i + 1, hlt, by go_num, hide HL7.out⟩
    case measure => simp [intOf] <;> omega
  ·obtain rfl : i = 11 := by omega
   have hltz : ¬ ((11 : Nat) : Int) ≤ 10 := by omega
   obtain ⟨vs, h1, h2⟩ := HL.out.row
   obtain ⟨g8, c8, hgv, -⟩ := owns_block h1 (by omega)
   subst hgv
   have HL1 := hide (HL.out.congr (g := fun i => selfN i tgt) fun j hj => by unfold ownTo; rw [if_pos hj])
   have y7 := HL1.out.r7.range
   clear h1 h2 HL HLV0
   go_upto_region 9 with (fail)
   refine wp_region_lit ?_
   refine wpList_load_mid rfl 74 (.tmp 7) rfl b7 0 rfl (row11 fun i => selfN i tgt) ad y7 had1 had2 Tryz.size11 ?_
   refine wpList_box rfl 74 rfl rfl (.tmp 10) (.tmp 30) rfl (row11 fun i => selfN i tgt) #[.int .i64 0, .int .i64 0, .int .i64 0, .int .i64 0, .int .i64 0, .int .i64 0, .int .i64 0, .int .i64 0, .int .i64 0, .int .i64 0, .int .i64 0] alloc11 rfl rfl rfl Tryz.size11 (row11_one _) ?_
   intro w9 hb9 E9
   obtain ⟨b10, hb10⟩ : ∃ b, wr.heap.size = b := ⟨_, rfl⟩
   rw [hb10] at hb9 ⊢
   have hn6 : b6 ≠ b10 := by have := HL1.out.r6.lt; omega
   have hn7 : b7 ≠ b10 := by have := HL1.out.r7.lt; omega
   have hgA : W.heap.size ≤ b10 := by have := HL1.out.ext.size; omega
   have HNA := hide (And.intro hn6 hn7)
   have HGA := hide hgA
   have HLA := hide (HL1.out.to E9)
   have HRA := hide (show Arr11 w9 b10 (fun i => selfN i tgt) from hb9)
   clear hb9 E9 hb10 hn6 hn7 hgA y7 HL1
   refine wpList_nil ?_
   simp only [Act.put]
   go_wp2_with fail
   go_loopw [11] (fun v11 wd => ∃ k : Nat, k ≤ d ∧ v11 = .int .i64 k ∧ Hid (LV W wd b6 b7 (fun i => selfN i tgt) (.slice (some ⟨g8, 0, none⟩) 11 c8) (fun j => kidsG c j) 11 ∧ Arr11 wd b10 (fun i => lvl (kidsG c) tgt k i))) (fun k _ => d - (intOf k).toNat)
   case atStart => exact ⟨0, Nat.zero_le _, rfl, hide ⟨HLA.out, HRA.out⟩⟩
   case round =>
    obtain ⟨k, hk, rfl, hst⟩ := hrel
    have HLK := hide hst.out.1
    have HRK := hide hst.out.2
    clear hst HLA HRA
    by_cases hlt2 : k < d
    ·have hltz2 : (k : Int) < (d : Int) := by omega
     have hwk : IntKind.i64.wrap ((k : Int) + 1) = ((k + 1 : Nat) : Int) := by have := HD.out; rw [IntKind.wrap_i64]; omega
     have y7 := HLK.out.r7.range
     go_upto_region 13 with (fail)
     refine wp_region_lit ?_
     refine wpList_load_mid rfl 74 (.tmp 7) rfl b7 0 rfl (row11 fun i => selfN i tgt) ad y7 had1 had2 Tryz.size11 ?_
     refine wpList_box rfl 74 rfl rfl (.tmp 12) (.tmp 36) rfl (row11 fun i => selfN i tgt) #[.int .i64 0, .int .i64 0, .int .i64 0, .int .i64 0, .int .i64 0, .int .i64 0, .int .i64 0, .int .i64 0, .int .i64 0, .int .i64 0, .int .i64 0] alloc11 rfl rfl rfl Tryz.size11 (row11_one _) ?_
     intro w11 hb11 E11
     obtain ⟨b12, hb12⟩ : ∃ b, wr.heap.size = b := ⟨_, rfl⟩
     rw [hb12] at hb11 ⊢
     have hln : LN W w11 b6 b7 b10 b12 (fun i => selfN i tgt) (fun i => lvl (kidsG c) tgt k i) (fun i => selfN i tgt) (.slice (some ⟨g8, 0, none⟩) 11 c8) (fun j => kidsG c j) :=
      ⟨HLK.out.to E11, HGA.out, by have := HLK.out.ext.size; omega, HNA.out, ⟨by have := HLK.out.r6.lt; omega, by have := HLK.out.r7.lt; omega, by have := HRK.out.lt; omega⟩, HRK.out.ext E11, hb11⟩
     have HLN := hide hln
     clear hb11 E11 hb12 hln y7 HLK HRK
     refine wpList_nil ?_
     simp only [Act.put]
     go_wp2_with fail
     go_loopw [13] (fun v13 we => ∃ j : Nat, j ≤ 11 ∧ v13 = .int .i64 j ∧ Hid (LN W we b6 b7 b10 b12 (fun i => selfN i tgt) (fun i => lvl (kidsG c) tgt k i) (nextTo (kidsG c) tgt k j 0) (.slice (some ⟨g8, 0, none⟩) 11 c8) (fun j => kidsG c j))) (fun j _ => 12 - (intOf j).toNat)
     case atStart => exact ⟨0, Nat.zero_le _, rfl, hide (HLN.out.congr fun i hi => by unfold nextTo; rw [if_neg (by omega)]; split <;> first | rfl | (rename_i h0; subst h0; rfl))⟩
     case round =>
      obtain ⟨j, hj, rfl, hst⟩ := hrel
      have HSJ := hide hst.out
      clear hst HLN
      by_cases hlt3 : j < 11
      ·have hltz3 : (j : Int) ≤ 10 := by omega
       have hjz : (j : Int) < 11 := by omega
       have hjz2 : (j : Int) < ((11 : Nat) : Int) := by omega
       have hwj : IntKind.i64.wrap ((j : Int) + 1) = ((j + 1 : Nat) : Int) := by rw [IntKind.wrap_i64]; omega
       obtain ⟨KK, hKK⟩ : ∃ KK, kidsG c (j : Int) = KK := ⟨_, rfl⟩
       have HKK := hide hKK
       have hkl : KK.length ≤ 1000 := by
        rw [← hKK, kidsG_eq, List.length_append, List.length_map]
        have h1 := find_kids HG.out.chk (j : Int)
        have h2 := lastG_len HG.out.chk (findS c.S (j : Int)).K
        omega
       have HKL := hide hkl
       have hkt : ∀ l ∈ KK, ∀ x ∈ l, 1 ≤ x ∧ x ≤ 10 := fun l hl x hx => there_ten HG.out.chk (kids_there (chk_lead HG.out.chk) (show l ∈ kidsG c (j : Int) by rw [hKK]; exact hl) hx)
       have HKT := hide hkt
       -- where the kids lie
       obtain ⟨vs, h1, h2⟩ := HSJ.out.lv.row
       obtain ⟨v, hv, hko⟩ := h2 j hlt3
       rw [hKK] at hko
       obtain ⟨us, hu1, hu2⟩ := hko
       obtain ⟨ga, kc, rfl⟩ := owns_shape hu1
       have HKA := hide (fun (X : World) (hX : LN W X b6 b7 b10 b12 (fun i => selfN i tgt) (fun i => lvl (kidsG c) tgt k i) (nextTo (kidsG c) tgt k j 0) (.slice (some ⟨g8, 0, none⟩) 11 c8) (fun j => kidsG c j)) => hX)
       have HC8 := hide (show wr.cell? ⟨g8, j, none⟩ = some (.slice ga KK.length kc) from by
        have := h1.cells (g := g8) rfl j _ hv
        rw [add_cell] at this
        exact this)
       have HU1 := hide hu1
       have HU2 := hide hu2
       have H1 := hide h1
       clear h1 h2 hv hu1 hu2 hkl hkt hKK
       obtain ⟨wj, rfl⟩ : ∃ x : World, x = wr := ⟨_, rfl⟩
       go_wp2_with fail
       go_loopw [14] (fun v14 wi => ∃ i : Nat, i ≤ KK.length ∧ v14 = .int .i64 i ∧ Hid (LN W wi b6 b7 b10 b12 (fun i => selfN i tgt) (fun i => lvl (kidsG c) tgt k i) (nextTo (kidsG c) tgt k j i) (.slice (some ⟨g8, 0, none⟩) 11 c8) (fun j => kidsG c j))) (fun i _ => KK.length - (intOf i).toNat)
       case atStart => exact ⟨0, Nat.zero_le _, rfl, hide HSJ.out⟩
       case round =>
        obtain ⟨i, hi, rfl, hst⟩ := hrel
        have HST := hide hst.out
        clear hst HSJ
        obtain ⟨vs2, h1, h2⟩ := HST.out.lv.row
        obtain ⟨v, hv, hko⟩ := h2 j hlt3
        simp only [HKK.out] at hko
        obtain ⟨us2, hu1, hu2⟩ := hko
        obtain ⟨ga2, kc2, rfl⟩ := owns_shape hu1
        have hc8 := h1.cells (g := g8) rfl j _ hv
        rw [add_cell] at hc8
        by_cases hlt4 : i < KK.length
        ·have hltz4 : (i : Int) < KK.length := by omega
         have hwi : IntKind.i64.wrap ((i : Int) + 1) = ((i + 1 : Nat) : Int) := by have := HKL.out; rw [IntKind.wrap_i64]; omega
         obtain ⟨gk, cap, hgv, -⟩ := owns_block hu1 (by omega)
         injection hgv with a1 a2 a3
         subst a1
         obtain ⟨ru, hru, hrj⟩ := hu2.read.at i hlt4
         have hcl := hu1.cells (g := gk) rfl i ru hru
         rw [add_cell] at hcl
         have hkm := HKT.out KK[i] (List.getElem_mem hlt4)
         have hnx : stpN (KK.take (i + 1)) (selfN j tgt) (lvl (kidsG c) tgt k) = sumM (stpN (KK.take i) (selfN j tgt) (lvl (kidsG c) tgt k)) (great KK[i] (lvl (kidsG c) tgt k)) := by
          unfold stpN
          rw [take_snoc KK i hlt4, List.foldl_append]
          rfl
         have hgl : great KK[i] (lvl (kidsG c) tgt k) = great KK[i] (fun x => (fun i : Nat => lvl (kidsG c) tgt k (i : Int)) x.toNat) := great_congr _ 0 fun x hx => by
          have := hkm x hx
          show _ = lvl (kidsG c) tgt k ((x.toNat : Nat) : Int)
          rw [Int.toNat_of_nonneg (by omega)]
         have hgb : 0 ≤ great KK[i] (lvl (kidsG c) tgt k) ∧ great KK[i] (lvl (kidsG c) tgt k) ≤ mostN := ⟨great_nn _ _, great_le_of _ 0 (by decide) fun x _ => (lvl_bd _ _ _ x).2⟩
         generalize KK[i] = l at hrj hkm hnx hgl hgb
         obtain ⟨hll, la, lc, rfl⟩ := hrj.shape
         have hgr := fun X (hX : Ext wr X) => rgreat_any (fun i => lvl (kidsG c) tgt k i) l _ X (hrj.ext hX) hkm
         rw [← hgl] at hgr
         obtain ⟨f, hf⟩ : ∃ f, (fun i : Nat => lvl (kidsG c) tgt k (i : Int)) = f := ⟨_, rfl⟩
         have hb10 := HST.out.rA
         rw [hf] at hgr hb10
         have hq := HST.out.rB.cell hlt3
         have hqe : nextTo (kidsG c) tgt k j i j = stpN (KK.take i) (selfN j tgt) (lvl (kidsG c) tgt k) := by
          unfold nextTo
          rw [if_neg (Nat.lt_irrefl _), if_pos rfl, HKK.out]
         rw [hqe] at hq
         have hqb : 0 ≤ stpN (KK.take i) (selfN j tgt) (lvl (kidsG c) tgt k) ∧ stpN (KK.take i) (selfN j tgt) (lvl (kidsG c) tgt k) ≤ mostN := by
          have h0 := self_bd j tgt
          have h1 : selfN j tgt ≤ mostN := by unfold mostN; omega
          have h2 := step_ge (lvl (kidsG c) tgt k) (KK.take i) _ h1
          refine ⟨Int.le_trans h0.1 h2, ?_⟩
          rw [stp_sum _ _ _ h1]
          omega
         have hnx2 : ∀ a, a < 11 → (if a = j then sumM (stpN (KK.take i) (selfN j tgt) (lvl (kidsG c) tgt k)) (great l (lvl (kidsG c) tgt k)) else nextTo (kidsG c) tgt k j i a) = nextTo (kidsG c) tgt k j (i + 1) a := fun a ha => by
          unfold nextTo
          by_cases haj : a = j
          ·subst haj
           rw [if_pos rfl, if_neg (Nat.lt_irrefl _), if_pos rfl, HKK.out, hnx]
          ·rw [if_neg haj, if_neg haj, if_neg haj]
         generalize great l (lvl (kidsG c) tgt k) = y at hgr hgb hnx2
         generalize stpN (KK.take i) (selfN j tgt) (lvl (kidsG c) tgt k) = q at hq hqb hnx2
         have HNX := hide hnx2
         have HGR := hide hgr
         have HSU := hide (fun X => rsum33_any q y X hqb hgb)
         have HQ := hide (fun X (hX : Ext wr X) => cell_ext hX hq)
         have HQF := hide (fun X (hX : Ext wr X) => (HST.out.rB.ext hX).frozen j)
         have HK8 := hide (fun X (hX : Ext wr X) => cell_ext hX hc8)
         have HLC := hide (fun X (hX : Ext wr X) => cell_ext hX hcl)
         have HB10 := hide (fun X (hX : Ext wr X) => Arr11.ext hb10 hX)
         clear hnx hgl hgb hqb hnx2 hgr hb10 hq hqe hcl hru hrj hkm hll a2 a3 h1 h2 hv hu1 hu2 hf
         go_upto_region 20 with (fail)
         refine wp_region_rwz 67 [15] [50, 51, 52, 53, 54, 55, 56, 57, 58, 59, 60, 61, 62, 63, 64] (PhC1 wr ⟨b12, j, none⟩ (.int .i64 (sumM q y))) (fun (t : Nat) (wI : World) (v : Value) => match t with | 50 => v = (.int .i64 (j : Int)) | 51 => v = (.int .i64 (j : Int)) | 52 => v = (.pointer (some ⟨b12, j, none⟩)) | 53 => v = (.int .i64 q) | 54 => v = (.agg (row11 f).toArray) | 55 => v = (.slice (some ⟨g8, 0, none⟩) 11 c8) | 56 => v = (.int .i64 (j : Int)) | 57 => v = (.pointer (some ⟨g8, j, none⟩)) | 58 => v = (.slice (some ⟨gk, 0, none⟩) KK.length kc2) | 59 => v = (.int .i64 (i : Int)) | 60 => v = (.pointer (some ⟨gk, i, none⟩)) | 61 => v = (.slice la l.length lc) | 62 => v = (.int .i64 y) | 63 => v = (.int .i64 (sumM q y)) | 64 => v = (.pointer (some ⟨b12, j, none⟩)) | _ => True) (fun _ _ => True) (by kernel_rfl) rfl (by kernel_rfl) (by kernel_rfl) (by kernel_rfl) (by kernel_rfl) ?_ ?_ ?_ ?_ ?_ ?_ ?_
         ·intro w' w'' h
          trivial
         ·intro t w' w'' v hR hv
          exact hv
         ·intro vs w' w'' h e
          exact h.keep e
         ·exact (Below.refl _ _).drew
         ·intro i o ho hmi vs X w' hpk hph hX hI hF K hK
          have hin : i < 16 := (Array.getElem?_eq_some_iff.1 ho).1
          have hi : i = 0 ∨ i = 1 ∨ i = 2 ∨ i = 3 ∨ i = 4 ∨ i = 5 ∨ i = 6 ∨ i = 7 ∨ i = 8 ∨ i = 9 ∨ i = 10 ∨ i = 11 ∨ i = 12 ∨ i = 13 ∨ i = 14 ∨ i = 15 := by omega
          rcases hi with rfl | rfl | rfl | rfl | rfl | rfl | rfl | rfl | rfl | rfl | rfl | rfl | rfl | rfl | rfl | rfl
          ·obtain rfl := Option.some.inj ho
           have e13 : X 13 = (.int .i64 (j : Int)) := hF 13 (by kernel_rfl)
           unfold wpOp
           simp only [ho]
           rw [if_pos (by rfl)]
           left
           rw [frame67]
           go_simp
           refine metK (hK.out ((.int .i64 (j : Int))) _ (Below.refl _ _) (fun d hd => by cases hd; exact rfl)) ?_
           simp [frame67, Act.put, *]
          ·obtain rfl := Option.some.inj ho
           have e13 : X 13 = (.int .i64 (j : Int)) := hF 13 (by kernel_rfl)
           unfold wpOp
           simp only [ho]
           rw [if_pos (by rfl)]
           left
           rw [frame67]
           go_simp
           refine metK (hK.out ((.int .i64 (j : Int))) _ (Below.refl _ _) (fun d hd => by cases hd; exact rfl)) ?_
           simp [frame67, Act.put, *]
          ·obtain rfl := Option.some.inj ho
           have e12 : X 12 = (.pointer (some ⟨b12, 0, none⟩)) := hF 12 (by kernel_rfl)
           have e51 : X 51 = _ := hI 51 (by kernel_rfl) (by kernel_rfl)
           unfold wpOp
           simp only [ho]
           rw [if_pos (by rfl)]
           left
           rw [frame67]
           go_simp
           refine metK (hK.out ((.pointer (some ⟨b12, j, none⟩))) _ (Below.refl _ _) (fun d hd => by cases hd; exact rfl)) ?_
           simp [frame67, Act.put, *]
          ·obtain rfl := Option.some.inj ho
           have e52 : X 52 = _ := hI 52 (by kernel_rfl) (by kernel_rfl)
           have hx := hph.x ((hpk 0 (by decide)).2 (by kernel_rfl))
           have q1 := HQ.out w' hx
           unfold wpOp
           simp only [ho]
           rw [if_pos (by rfl)]
           left
           rw [frame67]
           go_simp
           refine metK (hK.out ((.int .i64 q)) _ (Below.refl _ _) (fun d hd => by cases hd; exact rfl)) ?_
           simp [frame67, Act.put, *]
          ·obtain rfl := Option.some.inj ho
           have e10 : X 10 = (.pointer (some ⟨b10, 0, none⟩)) := hF 10 (by kernel_rfl)
           have hx := hph.x ((hpk 0 (by decide)).2 (by kernel_rfl))
           unfold wpOp
           simp only [ho]
           rw [if_pos (by rfl)]
           left
           rw [frame67]
           refine wp_load_mid 74 (.tmp 10) rfl b10 0 e10 (row11 f) ad (Arr11.range (HB10.out w' hx)) had1 had2 Tryz.size11 (metK (hK.out (.agg (row11 f).toArray) _ (Below.refl _ _) (fun d hd => by cases hd; exact rfl)) ?_)
           simp [frame67, Act.put, *]
          ·obtain rfl := Option.some.inj ho
           have e8 : X 8 = (.slice (some ⟨g8, 0, none⟩) 11 c8) := hF 8 (by kernel_rfl)
           unfold wpOp
           simp only [ho]
           rw [if_pos (by rfl)]
           left
           rw [frame67]
           go_simp
           refine metK (hK.out ((.slice (some ⟨g8, 0, none⟩) 11 c8)) _ (Below.refl _ _) (fun d hd => by cases hd; exact rfl)) ?_
           simp [frame67, Act.put, *]
          ·obtain rfl := Option.some.inj ho
           have e13 : X 13 = (.int .i64 (j : Int)) := hF 13 (by kernel_rfl)
           unfold wpOp
           simp only [ho]
           rw [if_pos (by rfl)]
           left
           rw [frame67]
           go_simp
           refine metK (hK.out ((.int .i64 (j : Int))) _ (Below.refl _ _) (fun d hd => by cases hd; exact rfl)) ?_
           simp [frame67, Act.put, *]
          ·obtain rfl := Option.some.inj ho
           have e55 : X 55 = _ := hI 55 (by kernel_rfl) (by kernel_rfl)
           have e56 : X 56 = _ := hI 56 (by kernel_rfl) (by kernel_rfl)
           unfold wpOp
           simp only [ho]
           rw [if_pos (by rfl)]
           left
           rw [frame67]
           go_simp
           refine metK (hK.out ((.pointer (some ⟨g8, j, none⟩))) _ (Below.refl _ _) (fun d hd => by cases hd; exact rfl)) ?_
           simp [frame67, Act.put, *]
          ·obtain rfl := Option.some.inj ho
           have e57 : X 57 = _ := hI 57 (by kernel_rfl) (by kernel_rfl)
           have hx := hph.x ((hpk 0 (by decide)).2 (by kernel_rfl))
           have q1 := HK8.out w' hx
           unfold wpOp
           simp only [ho]
           rw [if_pos (by rfl)]
           left
           rw [frame67]
           go_simp
           refine metK (hK.out ((.slice (some ⟨gk, 0, none⟩) KK.length kc2)) _ (Below.refl _ _) (fun d hd => by cases hd; exact rfl)) ?_
           simp [frame67, Act.put, *]
          ·obtain rfl := Option.some.inj ho
           have e14 : X 14 = (.int .i64 (i : Int)) := hF 14 (by kernel_rfl)
           unfold wpOp
           simp only [ho]
           rw [if_pos (by rfl)]
           left
           rw [frame67]
           go_simp
           refine metK (hK.out ((.int .i64 (i : Int))) _ (Below.refl _ _) (fun d hd => by cases hd; exact rfl)) ?_
           simp [frame67, Act.put, *]
          ·obtain rfl := Option.some.inj ho
           have e58 : X 58 = _ := hI 58 (by kernel_rfl) (by kernel_rfl)
           have e59 : X 59 = _ := hI 59 (by kernel_rfl) (by kernel_rfl)
           unfold wpOp
           simp only [ho]
           rw [if_pos (by rfl)]
           left
           rw [frame67]
           go_simp
           refine metK (hK.out ((.pointer (some ⟨gk, i, none⟩))) _ (Below.refl _ _) (fun d hd => by cases hd; exact rfl)) ?_
           simp [frame67, Act.put, *]
          ·obtain rfl := Option.some.inj ho
           have e60 : X 60 = _ := hI 60 (by kernel_rfl) (by kernel_rfl)
           have hx := hph.x ((hpk 0 (by decide)).2 (by kernel_rfl))
           have q1 := HLC.out w' hx
           unfold wpOp
           simp only [ho]
           rw [if_pos (by rfl)]
           left
           rw [frame67]
           go_simp
           refine metK (hK.out ((.slice la l.length lc)) _ (Below.refl _ _) (fun d hd => by cases hd; exact rfl)) ?_
           simp [frame67, Act.put, *]
          ·obtain rfl := Option.some.inj ho
           have e54 : X 54 = _ := hI 54 (by kernel_rfl) (by kernel_rfl)
           have e61 : X 61 = _ := hI 61 (by kernel_rfl) (by kernel_rfl)
           have hx := hph.x ((hpk 0 (by decide)).2 (by kernel_rfl))
           unfold wpOp
           simp only [ho]
           rw [if_pos (by rfl)]
           left
           rw [frame67]
           go_simp
           refine (HGR.out w' hx).mono ?_
           rintro e w9 ⟨rfl, E9⟩
           refine metK (hK.out (.int .i64 y) w9 E9 (fun d hd => by cases hd; exact rfl)) ?_
           simp [frame67, Act.put, *]
          ·obtain rfl := Option.some.inj ho
           have e53 : X 53 = _ := hI 53 (by kernel_rfl) (by kernel_rfl)
           have e62 : X 62 = _ := hI 62 (by kernel_rfl) (by kernel_rfl)
           unfold wpOp
           simp only [ho]
           rw [if_pos (by rfl)]
           left
           rw [frame67]
           go_simp
           refine (HSU.out w').mono ?_
           rintro e w9 ⟨rfl, rfl⟩
           refine metK (hK.out (.int .i64 (sumM q y)) w' (Below.refl _ _) (fun d hd => by cases hd; exact rfl)) ?_
           simp [frame67, Act.put, *]
          ·obtain rfl := Option.some.inj ho
           have e12 : X 12 = (.pointer (some ⟨b12, 0, none⟩)) := hF 12 (by kernel_rfl)
           have e50 : X 50 = _ := hI 50 (by kernel_rfl) (by kernel_rfl)
           unfold wpOp
           simp only [ho]
           rw [if_pos (by rfl)]
           left
           rw [frame67]
           go_simp
           refine metK (hK.out ((.pointer (some ⟨b12, j, none⟩))) _ (Below.refl _ _) (fun d hd => by cases hd; exact rfl)) ?_
           simp [frame67, Act.put, *]
          ·exact absurd hmi (by decide)
         ·intro i o ho hmi vs X w' hqi hql hph hX hI hF K hK
          rcases vs with _ | ⟨v0, _⟩
          ·obtain rfl : 15 = i := hqi
           obtain rfl := Option.some.inj ho
           have e63 : X 63 = _ := hI 63 (by kernel_rfl) (by kernel_rfl)
           have e64 : X 64 = _ := hI 64 (by kernel_rfl) (by kernel_rfl)
           have hx : Ext wr w' := hph
           have q1 := HQ.out w' hx
           have q2 := HQF.out w' hx
           unfold wpOp
           simp only [ho]
           rw [if_pos (by rfl)]
           left
           rw [frame67]
           go_simp
           refine metK (hK.out undef _ ⟨w', hx, Below.refl _ _⟩ trivial) ?_
           simp [frame67, Act.put, *]
          ·simp at hql <;> omega
         ·intro vs X w' hlen hph hX hI
          have e50 : X 50 = _ := hI 50 (by omega) (by kernel_rfl) (by kernel_rfl)
          have e51 : X 51 = _ := hI 51 (by omega) (by kernel_rfl) (by kernel_rfl)
          have e52 : X 52 = _ := hI 52 (by omega) (by kernel_rfl) (by kernel_rfl)
          have e53 : X 53 = _ := hI 53 (by omega) (by kernel_rfl) (by kernel_rfl)
          have e54 : X 54 = _ := hI 54 (by omega) (by kernel_rfl) (by kernel_rfl)
          have e55 : X 55 = _ := hI 55 (by omega) (by kernel_rfl) (by kernel_rfl)
          have e56 : X 56 = _ := hI 56 (by omega) (by kernel_rfl) (by kernel_rfl)
          have e57 : X 57 = _ := hI 57 (by omega) (by kernel_rfl) (by kernel_rfl)
          have e58 : X 58 = _ := hI 58 (by omega) (by kernel_rfl) (by kernel_rfl)
          have e59 : X 59 = _ := hI 59 (by omega) (by kernel_rfl) (by kernel_rfl)
          have e60 : X 60 = _ := hI 60 (by omega) (by kernel_rfl) (by kernel_rfl)
          have e61 : X 61 = _ := hI 61 (by omega) (by kernel_rfl) (by kernel_rfl)
          have e62 : X 62 = _ := hI 62 (by omega) (by kernel_rfl) (by kernel_rfl)
          have e63 : X 63 = _ := hI 63 (by omega) (by kernel_rfl) (by kernel_rfl)
          have e64 : X 64 = _ := hI 64 (by omega) (by kernel_rfl) (by kernel_rfl)
          rcases vs with _ | ⟨v0, _ | ⟨vz, vs⟩⟩
          ·simp at hlen
          rotate_left
          ·simp at hlen
          clear hX hI hlen
          simp only [overF, List.foldl_cons, List.foldl_nil, List.setIfInBounds_toArray, List.set_cons_succ, List.set_cons_zero, e50, e51, e52, e53, e54, e55, e56, e57, e58, e59, e60, e61, e62, e63, e64]
          obtain ⟨w8, E8, E9⟩ := hph
          have HS2 := hide ((((HST.out.to E8).put j (sumM q y)).to E9).congr HNX.out)
          clear E8 E9 e50 e51 e52 e53 e54 e55 e56 e57 e58 e59 e60 e61 e62 e63 e64
          generalize w' = W9 at *
          go_wp2
          go_roundw
          case rel => exact ⟨i + 1, hlt4, by go_num, hide HS2.out⟩
          case measure => simp [intOf] <;> omega
        ·obtain rfl : i = KK.length := by omega
         have hltz4 : ¬ (KK.length : Int) < KK.length := by omega
         have HS3 := hide (HST.out.congr (g2 := nextTo (kidsG c) tgt k (j + 1) 0) fun a ha => by
          unfold nextTo
          by_cases h1 : a < j
          ·rw [if_pos h1, if_pos (by omega)]
          ·by_cases h2 : a = j
           ·subst h2
            rw [if_neg (Nat.lt_irrefl _), if_pos rfl, if_pos (by omega), HKK.out, List.take_length]
            show _ = stpN (kidsG c _) _ _
            rw [HKK.out]
           ·rw [if_neg h1, if_neg h2, if_neg (by omega)]
            split
            ·rename_i h3
             subst h3
             rw [List.take_zero]
             rfl
            ·rfl)
         clear h1 h2 hv hu1 hu2
         go_wp2
         go_roundw
         case rel => exact ⟨j + 1, hlt3, by go_num, hide HS3.out⟩
         case measure => simp [intOf] <;> omega
      ·obtain rfl : j = 11 := by omega
       have hltz3 : ¬ ((11 : Nat) : Int) ≤ 10 := by omega
       have hln := HSJ.out.congr (g2 := fun i => lvl (kidsG c) tgt (k + 1) i) fun a ha => by
        unfold nextTo
        rw [if_pos ha]
       have y12 := hln.rB.range
       have y10 := hln.rA.there
       have HS4 := hide (And.intro (hln.lv.keep (keeps_setCellsG b10 (row11 fun i => lvl (kidsG c) tgt (k + 1) i) 0 wr) hln.gA (OfT.one hln.rA) hln.nA.1 hln.nA.2) (hln.rA.store (fun i => lvl (kidsG c) tgt (k + 1) i)))
       clear hln HSJ
       go_upto_region 21 with (fail)
       refine wp_region_lit ?_
       refine wpList_load_mid rfl 74 (.tmp 12) rfl b12 0 rfl (row11 fun i => lvl (kidsG c) tgt (k + 1) i) ad y12 had1 had2 Tryz.size11 ?_
       refine wpList_store_mid rfl 74 (.tmp 10) (.tmp 65) rfl b10 0 (row11 fun i => lvl (kidsG c) tgt (k + 1) i).toArray rfl rfl y10 Tryz.size11 (all_oneCell_toArray (row11_one _)) ?_
       refine wpList_nil ?_
       simp only [Act.put]
       generalize hwz : World.setCells wr b10 0 (row11 fun i => lvl (kidsG c) tgt (k + 1) i).toArray.toList = w13
       have HS5 := HS4
       rw [show (row11 fun i => lvl (kidsG c) tgt (k + 1) i).toArray.toList = row11 fun i => lvl (kidsG c) tgt (k + 1) i from rfl] at hwz
       rw [hwz] at HS5
       clear HS4 hwz y12 y10
       go_wp2
       go_roundw
       case rel => exact ⟨k + 1, hlt2, by go_num, hide HS5.out⟩
       case measure => simp [intOf] <;> omega
    ·obtain rfl : k = d := by omega
     have hltz2 : ¬ (k : Int) < (k : Int) := by omega
     have y10 := HRK.out.range
     have y6 := HLK.out.r6.there
     have hE := Keeps.ext HLK.out.ext (keeps_setCellsG b6 (row11 fun i => lvl (kidsG c) tgt k i) 0 wr) (fun q hq => by rw [hq]; exact HLK.out.g6)
     have hR := HLK.out.r6.store (fun i => lvl (kidsG c) tgt k i)
     have HZ := hide (HX.out.trans hE)
     have HRR := hide hR
     clear hE hR
     go_upto_region 22 with (fail)
     refine wp_region_lit ?_
     refine wpList_load_mid rfl 74 (.tmp 10) rfl b10 0 rfl (row11 fun i => lvl (kidsG c) tgt k i) ad y10 had1 had2 Tryz.size11 ?_
     refine wpList_store_mid rfl 74 (.tmp 6) (.tmp 66) rfl b6 0 (row11 fun i => lvl (kidsG c) tgt k i).toArray rfl rfl y6 Tryz.size11 (all_oneCell_toArray (row11_one _)) ?_
     refine wpList_nil ?_
     simp only [Act.put]
     generalize hwz : World.setCells wr b6 0 (row11 fun i => lvl (kidsG c) tgt k i).toArray.toList = w13
     rw [show (row11 fun i => lvl (kidsG c) tgt k i).toArray.toList = row11 fun i => lvl (kidsG c) tgt k i from rfl] at hwz
     rw [hwz] at HZ HRR
     clear hwz
     have y6r := HRR.out.range
     go_wp2_with (fail)
     (try simp only [Exit.inBlock, Exit.then])
     refine bodyPost_ret (results_cell_mid rfl _ _ b6 0 (row11 fun i => lvl (kidsG c) tgt k i) ad rfl y6r had1 had2 Tryz.size11) rfl ?_
     exact ⟨rfl, HZ.out⟩
set_option maxRecDepth 100000 in
set_option maxHeartbeats 8000000 in
/-- how many calls one call makes -/
theorem rwalks_any (c : ConfD) (fr tgt : Int) (d : Nat) (w : World) (h : GC w c) (hd : d ≤ 1000000) :
  Calls Tryz.prog 18 #[.agg (encC c).toArray, .int .i64 fr, .int .i64 tgt, .int .i64 (d : Int)] w fun e w' => e = .returned (.int .i64 (lvl (kidsG c) tgt d fr)) ∧ Ext w w' := by
 obtain ⟨cd, hcd1, hcd2⟩ := Tryz.confDesc
 have hx : Ext w (w.alloc (.cells (encC c).toArray 30)) := (Below.refl _ _).alloc (Nat.le_refl _) _
 have hb1 : BoxC (w.alloc (.cells (encC c).toArray 30)) w.heap.size c := heap_alloc_new w (.cells (encC c).toArray 30)
 have HG := hide (h.ext hx)
 have hout : fr < 0 ∨ 10 < fr → lvl (kidsG c) tgt d fr = selfN fr tgt := fun ho => by
  have ht : thereB c.S fr = false := by
   rw [Bool.eq_false_iff]
   intro ht
   have := there_ten h.chk ht
   omega
  cases d with
  | zero => rfl
  | succ d =>
   show stpN (kidsG c fr) _ _ = _
   rw [kidsG_not ht]
   rfl
 obtain ⟨R, hR⟩ : ∃ R, lvl (kidsG c) tgt d fr = R := ⟨_, rfl⟩
 rw [hR] at hout ⊢
 have HOUT := hide hout
 have HRE := hide hR
 clear h hout hR
 go_enter Tryz.func18, Tryz.ntmps18
 go_upto_region 1 with (fail)
 show Code.wp _ _ _ _ (w.alloc (.cells (encC c).toArray 30))
 generalize w.alloc (.cells (encC c).toArray 30) = W at hx hb1 HG ⊢
 obtain ⟨b4, hb4⟩ : ∃ b, w.heap.size = b := ⟨_, rfl⟩
 rw [hb4] at hb1 ⊢
 have HX := hide hx
 have HBX := hide (fun X (hX : Ext W X) => BoxC.ext hb1 hX)
 clear hx hb1 hb4
 by_cases ho : fr < 0 ∨ 10 < fr
 ·have HL := hide (HOUT.out ho)
  by_cases h0 : fr < 0
  ·have h0d : decide (fr < 0) = true := decide_eq_true h0
   clear ho
   by_cases he : fr = tgt
   ·have heb : (fr == tgt) = true := by simp [he]
    have HSF := hide (show R = 1 from HL.out.trans (if_pos he))
    clear he
    go_wp2
    go_ret
    exact ⟨by rw [HSF.out]; rfl, HX.out⟩
   ·have heb : (fr == tgt) = false := by simp [he]
    have HSF := hide (show R = 0 from HL.out.trans (if_neg he))
    clear he
    go_wp2
    go_ret
    exact ⟨by rw [HSF.out]; rfl, HX.out⟩
  ·have h0d : decide (fr < 0) = false := decide_eq_false h0
   have h1 : 10 < fr := by omega
   have h1d : decide (10 < fr) = true := decide_eq_true h1
   clear ho
   by_cases he : fr = tgt
   ·have heb : (fr == tgt) = true := by simp [he]
    have HSF := hide (show R = 1 from HL.out.trans (if_pos he))
    clear he
    go_wp2
    go_ret
    exact ⟨by rw [HSF.out]; rfl, HX.out⟩
   ·have heb : (fr == tgt) = false := by simp [he]
    have HSF := hide (show R = 0 from HL.out.trans (if_neg he))
    clear he
    go_wp2
    go_ret
    exact ⟨by rw [HSF.out]; rfl, HX.out⟩
 ·have h0 : ¬ fr < 0 := by omega
  have h0d : decide (fr < 0) = false := decide_eq_false h0
  have h1 : ¬ 10 < fr := by omega
  have h1d : decide (10 < fr) = false := decide_eq_false h1
  obtain ⟨q, rfl⟩ : ∃ q : Nat, fr = q := ⟨fr.toNat, by omega⟩
  have hq : q < 11 := by omega
  have hqz : (q : Int) < 11 := by omega
  have hbx := HBX.out W (Below.refl _ _)
  clear ho
  go_upto_region 5 with (fail)
  refine wp_region_lit ?_
  refine wpList_load_mid rfl 30 (.tmp 4) rfl b4 0 rfl (encC c) cd hbx.range hcd1 hcd2 Tryz.confSize ?_
  refine wpList_plain rfl fun Kq hKq => ?_
  go_simp
  refine hKq _ _ ?_
  clear hKq Kq
  refine wpList_plain rfl fun Kq hKq => ?_
  go_simp
  refine hKq _ _ ?_
  clear hKq Kq
  refine wpList_plain rfl fun Kq hKq => ?_
  go_simp
  refine (levels_any c tgt d W HG.out hd).mono ?_
  rintro e w5 ⟨rfl, E5⟩
  refine hKq _ _ ?_
  clear hKq Kq
  refine wpList_box rfl 74 rfl rfl (.tmp 9) (.tmp 22) rfl (row11 fun i => lvl (kidsG c) tgt d i) #[.int .i64 0, .int .i64 0, .int .i64 0, .int .i64 0, .int .i64 0, .int .i64 0, .int .i64 0, .int .i64 0, .int .i64 0, .int .i64 0, .int .i64 0] alloc11 rfl rfl rfl Tryz.size11 (row11_one _) ?_
  intro w6 hb6 E6
  obtain ⟨b9, hb9⟩ : ∃ b, w5.heap.size = b := ⟨_, rfl⟩
  rw [hb9] at hb6 ⊢
  have hc : w6.cell? ⟨b9, q, none⟩ = some (.int .i64 R) := by rw [← HRE.out]; exact Arr11.cell (f := fun i => lvl (kidsG c) tgt d i) hb6 hq
  have HZ := hide (HX.out.trans (E5.trans E6))
  clear hb6 hb9 E5 E6 hbx
  refine wpList_nil ?_
  simp only [Act.put]
  go_wp2
  go_ret
  exact ⟨rfl, HZ.out⟩
end Go.Proofs.YtceaeiaoanhlnaaGreatDoor
