/- Merged texts (CfC, CfD, MpV). -/
import Derived.Test.YtkhebanpplokdaaGreatDoorCfA
import Derived.Deep.RegionHeld3
import Derived.Deep.CutBlock
import Derived.Maps.OwnSet
import Derived.Maps.RangeWalk
namespace Go.Proofs.YtkhebanpplokdaaGreatDoor
open Go.ChangeShapes Go.WideShapes Go.ChangeAt Go.RowKit Go.Lib Go.Shelf
/-- the rows of a configuration are the call's own, in blocks from B on -/
structure ConfOwn (B : Nat) (w : World) (c : ConfD) : Prop where
 s : w.ownsRow B 71 7 c.sv c.S.length (c.S.flatMap encV)
 k : ∀ s ∈ c.S, w.ownsRow B 9 1 s.kv s.K.length (s.K.flatMap encS)
 e : w.ownsRow B 73 3 c.ev c.E.length (c.E.flatMap encE)
 r : w.ownsRow B 89 19 c.rv c.R.length (c.R.flatMap encR)
 rr : ∀ r ∈ c.R, RuleOwn B w r
 t : w.ownsRow B 75 3 c.tv c.T.length (c.T.flatMap encT)
theorem ConfOwn.ok {B : Nat} {w : World} {c : ConfD} (h : ConfOwn B w c) : ConfOk w c :=
 ⟨Sl.of_own' encV_len h.s, fun s hs => Sl.of_own' (enc := encS) (fun _ => rfl) (h.k s hs), Sl.of_own' encE_len h.e, Sl.of_own' encR_len h.r, fun r hr => (h.rr r hr).ok, Sl.of_own' encT_len h.t⟩
theorem ConfOwn.ext {B : Nat} {w w' : World} {c : ConfD} (h : ConfOwn B w c) (e : Ext w w') : ConfOwn B w' c :=
 ⟨owns_ext h.s e, fun s hs => owns_ext (h.k s hs) e, owns_ext h.e e, owns_ext h.r e, fun r hr => (h.rr r hr).ext e, owns_ext h.t e⟩
/-- blocks of one type -/
def OfT (w : World) (X : Nat → Prop) (T : TypeId) : Prop := ∀ g, X g → ∃ cs f, w.heap[g]? = some (.cells cs T f)
theorem owns_keepT {X : Nat → Prop} {w w' : World} {base : Nat} {e T : TypeId} {size : Nat} {v : Value} {n : Nat} {xs : List Value} (h : w.ownsRow base e size v n xs) (k : Keeps X w w') (hX : OfT w X T) (hne : T ≠ e) : w'.ownsRow base e size v n xs :=
 owns_keeps h k fun g hg hx => by
  obtain ⟨cs, f, hc⟩ := hX g hx
  exact hne (owns_type h hg hc)
theorem OfT.own {w : World} {B size n : Nat} {T : TypeId} {v : Value} {xs : List Value} (h : w.ownsRow B T size v n xs) : OfT w (fun g => v.ownBlock = some g) T := fun g hg => by
 obtain ⟨cs, fz, hc⟩ := ownsRow_kind h g hg
 exact ⟨cs, fz, hc⟩
theorem OfT.one {w : World} {b : Nat} {T : TypeId} {cs : Array Value} {f : Nat × Nat} (h : w.heap[b]? = some (.cells cs T f)) : OfT w (fun g => g = b) T := fun g hg => by subst hg; exact ⟨cs, f, h⟩
theorem RuleOwn.keepT {X : Nat → Prop} {B : Nat} {w w' : World} {r : RuleD} {T : TypeId} (h : RuleOwn B w r) (k : Keeps X w w') (hX : OfT w X T) (h1 : T ≠ 155) (h2 : T ≠ 92) (h3 : T ≠ 9) : RuleOwn B w' r :=
 ⟨owns_keepT h.1 k hX h1, owns_keepT h.2.1 k hX h2, owns_keepT h.2.2.1 k hX h1, owns_keepT h.2.2.2 k hX h3⟩
/-- a store into a block of another type turns no row -/
theorem ConfOwn.keepT {X : Nat → Prop} {B : Nat} {w w' : World} {c : ConfD} {T : TypeId} (h : ConfOwn B w c) (k : Keeps X w w') (hX : OfT w X T) (h1 : T ≠ 71) (h2 : T ≠ 9) (h3 : T ≠ 73) (h4 : T ≠ 89) (h5 : T ≠ 75) (h6 : T ≠ 155) (h7 : T ≠ 92) : ConfOwn B w' c :=
 ⟨owns_keepT h.s k hX h1, fun s hs => owns_keepT (h.k s hs) k hX h2, owns_keepT h.e k hX h3, owns_keepT h.r k hX h4, fun r hr => (h.rr r hr).keepT k hX h6 h7 h2, owns_keepT h.t k hX h5⟩
/-- a configuration in a block of its own -/
def BoxC (w : World) (b : Nat) (c : ConfD) : Prop := w.heap[b]? = some (.cells (encC c).toArray 30 (0, 0))
theorem BoxC.lt {w : World} {b : Nat} {c : ConfD} (h : BoxC w b c) : b < w.heap.size := (Array.getElem?_eq_some_iff.1 h).1
theorem BoxC.keep {w w' : World} {b : Nat} {c : ConfD} (h : BoxC w b c) (e : w'.heap[b]? = w.heap[b]?) : BoxC w' b c := e.trans h
theorem BoxC.ext {w w' : World} {b : Nat} {c : ConfD} (h : BoxC w b c) (e : Ext w w') : BoxC w' b c := (e.block b h.lt).trans h
theorem BoxC.cell {w : World} {b : Nat} {c : ConfD} (h : BoxC w b c) (j : Nat) (u : Value) (hu : (encC c)[j]? = some u) : w.cell? ⟨b, j, none⟩ = some u := ArrB.cell h j u (by simpa using hu)
theorem BoxC.frozen {w : World} {b : Nat} {c : ConfD} (h : BoxC w b c) (j : Nat) : w.frozen? ⟨b, j, none⟩ = false := ArrB.frozen h j
theorem BoxC.range {w : World} {b : Nat} {c : ConfD} (h : BoxC w b c) : w.rangeAt b 0 (encC c) := fun j v hv => by rw [Nat.zero_add]; exact h.cell j v hv
theorem BoxC.set {w : World} {b : Nat} {c c' : ConfD} (h : BoxC w b c) (j : Nat) (v : Value) (he : encC c' = (encC c).set j v) : BoxC (w.setCell ⟨b, j, none⟩ v) b c' := by
 have := ArrB.set h j v
 unfold BoxC
 rw [he]
 simpa using this
theorem BoxC.of {w : World} {b : Nat} {c : ConfD} {l : List Value} (h : w.heap[b]? = some (.cells l.toArray 30 (0, 0))) (e : l = encC c) : BoxC w b c := by subst e; exact h
theorem BoxC.of_range {w : World} {b : Nat} {c : ConfD} {cs : Array Value} (h : w.heap[b]? = some (.cells cs 30 (0, 0))) (hs : cs.size = 20) (hr : w.rangeAt b 0 (encC c)) : BoxC w b c := by
 have e : cs = (encC c).toArray := by
  apply Array.ext_getElem?
  intro j
  by_cases hj : j < 20
  ·have := hr j (encC c)[j] (List.getElem?_eq_getElem hj)
   rw [Nat.zero_add] at this
   simp only [World.cell?, h] at this
   exact (by simpa using this : cs[j]? = some (encC c)[j]).trans (Array.getElem?_eq_getElem (show j < (encC c).toArray.size from hj)).symm
  ·rw [Array.getElem?_eq_none (by omega), Array.getElem?_eq_none (by show 20 ≤ j; omega)]
 unfold BoxC
 rw [← e]
 exact h
/-- a configuration that is being made: the result's box b2, its own box b5 -/
structure CS (w0 w : World) (b2 b5 : Nat) (c : ConfD) : Prop where
 ext : Ext w0 w
 box : BoxC w b5 c
 own : ConfOwn w0.heap.size w c
 bx2 : ∃ cs : Array Value, w.heap[b2]? = some (.cells cs 30 (0, 0)) ∧ cs.size = 20
 ge5 : w0.heap.size ≤ b5
 ge2 : w0.heap.size ≤ b2
 ne : b2 ≠ b5
theorem CS.keep {w0 w w' : World} {b2 b5 : Nat} {c : ConfD} (h : CS w0 w b2 b5 c) (e : Ext w w') : CS w0 w' b2 b5 c := by
 obtain ⟨cs, h1, h2⟩ := h.bx2
 exact ⟨Ext.trans h.ext e, h.box.ext e, h.own.ext e, ⟨cs, (e.block _ (Array.getElem?_eq_some_iff.1 h1).1).trans h1, h2⟩, h.ge5, h.ge2, h.ne⟩
/-- one number of it is turned -/
theorem CS.set {w0 w : World} {b2 b5 : Nat} {c : ConfD} (h : CS w0 w b2 b5 c) (j : Nat) (v : Value) (c' : ConfD) (he : encC c' = (encC c).set j v) (ho : ConfOwn w0.heap.size w c') : CS w0 (w.setCell ⟨b5, j, none⟩ v) b2 b5 c' := by
 obtain ⟨cs, h1, h2⟩ := h.bx2
 have hk := Keeps.of_set (X := fun g => g = b5) w b5 j v rfl
 exact ⟨Keeps.ext h.ext hk (fun g hg => by have := h.ge5; omega), h.box.set j v he, ho.keepT hk (OfT.one h.box) (by decide) (by decide) (by decide) (by decide) (by decide) (by decide) (by decide),
  ⟨cs, (hk.block _ (Array.getElem?_eq_some_iff.1 h1).1 h.ne).trans h1, h2⟩, h.ge5, h.ge2, h.ne⟩
/-- some rows were written, none of them a box -/
theorem CS.mid {w0 w w1 : World} {b2 b5 : Nat} {c c' : ConfD} {X : Nat → Prop} {T : TypeId} (h : CS w0 w b2 b5 c) (hk : Keeps X w w1) (hX : OfT w X T) (hT : T ≠ 30) (hXB : ∀ g, X g → w0.heap.size ≤ g) (ho : ConfOwn w0.heap.size w1 c') (j : Nat) (v : Value) (he : encC c' = (encC c).set j v) : CS w0 (w1.setCell ⟨b5, j, none⟩ v) b2 b5 c' := by
 obtain ⟨cs, h1, h2⟩ := h.bx2
 have n5 : ¬ X b5 := fun hx => by
  obtain ⟨c1, f1, e1⟩ := hX b5 hx
  rw [h.box] at e1
  cases e1
  exact hT rfl
 have n2 : ¬ X b2 := fun hx => by
  obtain ⟨c1, f1, e1⟩ := hX b2 hx
  rw [h1] at e1
  cases e1
  exact hT rfl
 have hb := h.box.keep (hk.block _ h.box.lt n5)
 have h11 := (hk.block _ (Array.getElem?_eq_some_iff.1 h1).1 n2).trans h1
 have hs := Keeps.of_set (X := fun g => g = b5) w1 b5 j v rfl
 exact ⟨Keeps.ext (Keeps.ext h.ext hk hXB) hs (fun g hg => by have := h.ge5; omega), hb.set j v he, ho.keepT hs (OfT.one hb) (by decide) (by decide) (by decide) (by decide) (by decide) (by decide) (by decide),
  ⟨cs, (hs.block _ (Array.getElem?_eq_some_iff.1 h11).1 h.ne).trans h11, h2⟩, h.ge5, h.ge2, h.ne⟩
/-- one service more -/
theorem CS.addS {w0 w w1 : World} {b2 b5 : Nat} {c : ConfD} {s : SvcD} {u : Value} (h : CS w0 w b2 b5 c) (hk : Keeps (fun g => c.sv.ownBlock = some g) w w1) (hu : w1.ownsRow w0.heap.size 71 7 u (c.S.length + 1) (c.S.flatMap encV ++ [s].flatMap encV)) (hs : w.ownsRow w0.heap.size 9 1 s.kv s.K.length (s.K.flatMap encS)) :
  CS w0 (w1.setCell ⟨b5, 0, none⟩ u) b2 b5 { c with sv := u, S := c.S ++ [s] } := by
 have hX : OfT w (fun g => c.sv.ownBlock = some g) 71 := OfT.own h.own.s
 refine h.mid (c' := { c with sv := u, S := c.S ++ [s] }) hk hX (by decide) (fun g hg => (h.own.s.lt g hg).1) ⟨?_, ?_, owns_keepT h.own.e hk hX (by decide), owns_keepT h.own.r hk hX (by decide), fun r hr => (h.own.rr r hr).keepT hk hX (by decide) (by decide) (by decide), owns_keepT h.own.t hk hX (by decide)⟩ 0 u rfl
 ·simpa using hu
 ·intro x hx
  rcases List.mem_append.1 hx with hx | hx
  ·exact owns_keepT (h.own.k x hx) hk hX (by decide)
  ·rw [List.mem_singleton.1 hx]
   exact owns_keepT hs hk hX (by decide)
/-- one endpoint more -/
theorem CS.addE {w0 w w1 : World} {b2 b5 : Nat} {c : ConfD} {s : EndD} {u : Value} (h : CS w0 w b2 b5 c) (hk : Keeps (fun g => c.ev.ownBlock = some g) w w1) (hu : w1.ownsRow w0.heap.size 73 3 u (c.E.length + 1) (c.E.flatMap encE ++ [s].flatMap encE)) :
  CS w0 (w1.setCell ⟨b5, 1, none⟩ u) b2 b5 { c with ev := u, E := c.E ++ [s] } := by
 have hX : OfT w (fun g => c.ev.ownBlock = some g) 73 := OfT.own h.own.e
 refine h.mid (c' := { c with ev := u, E := c.E ++ [s] }) hk hX (by decide) (fun g hg => (h.own.e.lt g hg).1) ⟨owns_keepT h.own.s hk hX (by decide), fun x hx => owns_keepT (h.own.k x hx) hk hX (by decide), ?_, owns_keepT h.own.r hk hX (by decide), fun r hr => (h.own.rr r hr).keepT hk hX (by decide) (by decide) (by decide), owns_keepT h.own.t hk hX (by decide)⟩ 1 u rfl
 simpa using hu
/-- one rule more -/
theorem CS.addR {w0 w w1 : World} {b2 b5 : Nat} {c : ConfD} {s : RuleD} {u : Value} (h : CS w0 w b2 b5 c) (hk : Keeps (fun g => c.rv.ownBlock = some g) w w1) (hu : w1.ownsRow w0.heap.size 89 19 u (c.R.length + 1) (c.R.flatMap encR ++ [s].flatMap encR)) (hs : RuleOwn w0.heap.size w s) :
  CS w0 (w1.setCell ⟨b5, 2, none⟩ u) b2 b5 { c with rv := u, R := c.R ++ [s] } := by
 have hX : OfT w (fun g => c.rv.ownBlock = some g) 89 := OfT.own h.own.r
 refine h.mid (c' := { c with rv := u, R := c.R ++ [s] }) hk hX (by decide) (fun g hg => (h.own.r.lt g hg).1) ⟨owns_keepT h.own.s hk hX (by decide), fun x hx => owns_keepT (h.own.k x hx) hk hX (by decide), owns_keepT h.own.e hk hX (by decide), ?_, ?_, owns_keepT h.own.t hk hX (by decide)⟩ 2 u rfl
 ·simpa using hu
 ·intro x hx
  rcases List.mem_append.1 hx with hx | hx
  ·exact (h.own.rr x hx).keepT hk hX (by decide) (by decide) (by decide)
  ·rw [List.mem_singleton.1 hx]
   exact hs.keepT hk hX (by decide) (by decide) (by decide)
theorem info_partsN {t : TypeId} {n b : Nat} (h : (Tryz.prog.info? t).map (fun i => (i.size, i.bytes, i.zero.map fun z => z.cells.size)) = some (n, b, some n)) : ∃ i z, Tryz.prog.info? t = some i ∧ i.zero = some z ∧ i.size = n ∧ i.bytes = b ∧ z.cells.size = n := by
 revert h
 cases Tryz.prog.info? t with
 | none => intro h; cases h
 | some i =>
  intro h
  simp only [Option.map_some, Option.some.injEq, Prod.mk.injEq] at h
  obtain ⟨h1, h2, h3⟩ := h
  cases hz : i.zero with
  | none => rw [hz] at h3; cases h3
  | some z =>
   rw [hz] at h3
   exact ⟨i, z, rfl, hz, h1, h2, by simpa using h3⟩
theorem Tryz.infoV : (Tryz.prog.info? 71).map (fun i => (i.size, i.bytes, i.zero.map fun z => z.cells.size)) = some (7, 72, some 7) := by kernel_rfl
theorem Tryz.infoE : (Tryz.prog.info? 73).map (fun i => (i.size, i.bytes, i.zero.map fun z => z.cells.size)) = some (3, 24, some 3) := by kernel_rfl
theorem Tryz.infoT : (Tryz.prog.info? 75).map (fun i => (i.size, i.bytes, i.zero.map fun z => z.cells.size)) = some (3, 24, some 3) := by kernel_rfl
theorem Tryz.svcDesc0 : (Tryz.prog.underlying 71).map TypeDesc.isRow = some true := by kernel_rfl
theorem Tryz.svcDesc : ∃ d, Tryz.prog.underlying 71 = some d ∧ d.isRow = true := by
 have h := Tryz.svcDesc0
 revert h
 cases Tryz.prog.underlying 71 with
 | none => intro h; cases h
 | some d => intro h; exact ⟨d, rfl, by simpa using h⟩
theorem Tryz.svcSize : (Tryz.prog.info? 71).map (·.size) = some 7 := by kernel_rfl
/-- a new row of one element -/
theorem sl_new1 {α : Type} {enc : α → List Value} {n : Nat} (hs : ∀ x, (enc x).length = n) (w : World) (s : α) (T : TypeId) (l : List Value) (hl : enc s = l) : Sl enc n (w.alloc (.cells l.toArray T)) (.slice (some ⟨w.heap.size, 0, none⟩) 1 1) [s] := by
 subst hl
 have h := World.ownsRow_lit (base := 0) (e := T) (size := n) w (enc s).toArray 1 (Nat.zero_le _) (by unfold maxLen; omega) (by simp [hs])
 refine Sl.of_own' hs (base := 0) (e := T) ?_
 have e : ([s] : List α).flatMap enc = (enc s).toArray.toList := by simp
 rw [e]
 exact h
theorem encV_one {s : SvcD} (h : ∃ a n c, s.kv = .slice a n c) : ∀ u ∈ encV s, u.oneCell' = true := by
 obtain ⟨a, n, c, h⟩ := h
 intro u hu
 unfold encV at hu
 rw [h] at hu
 simp at hu
 rcases hu with rfl | rfl | rfl | rfl | rfl | rfl | rfl <;> rfl
theorem encE_one (s : EndD) : ∀ u ∈ encE s, u.oneCell' = true := by
 intro u hu
 simp [encE] at hu
 rcases hu with rfl | rfl | rfl <;> rfl
end Go.Proofs.YtkhebanpplokdaaGreatDoor
namespace Go.Proofs.YtkhebanpplokdaaGreatDoor
open Go.ChangeShapes Go.WideShapes Go.ChangeAt Go.RowKit Go.Lib Go.Shelf
def confA (L : List Int) (m : Nat) : ConfD := { genC L with S := svcsN L m, E := endsA L m, R := [], T := [], w0 := 0, w1 := 0, w2 := 0, w3 := 0, w4 := 0, w5 := 0, w6 := 0 }
/-- the conf's numbers, and where its rules lie -/
def ConfD.cor2 (c : ConfD) : ConfD := { c.core with rv := c.rv }
theorem ConfD.of_cor2 {c d : ConfD} (h : c.cor2 = d) : c.core = { d with rv := .slice none 0 0 } := by
 rw [← h]; rfl
def confB (L : List Int) (t : Nat) : ConfD := { genC L with E := endsA L (svcsM L) ++ endsZ L (svcsM L) t, R := [], T := [], w0 := 0, w1 := 0, w2 := 0, w3 := 0, w4 := 0, w5 := 0, w6 := 0 }
def confC (L : List Int) (k : Nat) : ConfD := { genC L with R := rulesC L (svcsM L) k }
theorem Tryz.confDesc0 : (Tryz.prog.underlying 30).map TypeDesc.isRow = some true := by kernel_rfl
theorem Tryz.confDesc : ∃ d, Tryz.prog.underlying 30 = some d ∧ d.isRow = true := by
 have h := Tryz.confDesc0
 revert h
 cases Tryz.prog.underlying 30 with
 | none => intro h; cases h
 | some d => intro h; exact ⟨d, rfl, by simpa using h⟩
theorem Tryz.confSize : (Tryz.prog.info? 30).map (·.size) = some 20 := by kernel_rfl
noncomputable def confTail (n : Nat) : Code := rightOf n ((Tryz.f6.body).getD .skip)
/-- what Conf tells -/
def ConfP (L : List Int) (w : World) (e : Ending) (w' : World) : Prop := ∃ c, e = .returned c.val ∧ c.core = genC L ∧ ConfOwn w.heap.size w' c ∧ Ext w w'
def conf0 (L : List Int) : ConfD := { confA L 0 with horizon := 0 }
theorem heap_second (w : World) (a b : Obj) : ((w.alloc a).alloc b).heap[w.heap.size + 1]? = some b := by
 show ((w.heap.push a).push b)[w.heap.size + 1]? = _
 rw [Array.getElem?_push]
 simp
set_option maxRecDepth 100000 in
theorem frame236 (x : Nat → Value) : frameOf 236 x = #[x 0, x 1, x 2, x 3, x 4, x 5, x 6, x 7, x 8, x 9, x 10, x 11, x 12, x 13, x 14, x 15, x 16, x 17, x 18, x 19, x 20, x 21, x 22, x 23, x 24, x 25, x 26, x 27, x 28, x 29, x 30, x 31, x 32, x 33, x 34, x 35, x 36, x 37, x 38, x 39, x 40, x 41, x 42, x 43, x 44, x 45, x 46, x 47, x 48, x 49, x 50, x 51, x 52, x 53, x 54, x 55, x 56, x 57, x 58, x 59, x 60, x 61, x 62, x 63, x 64, x 65, x 66, x 67, x 68, x 69, x 70, x 71, x 72, x 73, x 74, x 75, x 76, x 77, x 78, x 79, x 80, x 81, x 82, x 83, x 84, x 85, x 86, x 87, x 88, x 89, x 90, x 91, x 92, x 93, x 94, x 95, x 96, x 97, x 98, x 99, x 100, x 101, x 102, x 103, x 104, x 105, x 106, x 107, x 108, x 109, x 110, x 111, x 112, x 113, x 114, x 115, x 116, x 117, x 118, x 119, x 120, x 121, x 122, x 123, x 124, x 125, x 126, x 127, x 128, x 129, x 130, x 131, x 132, x 133, x 134, x 135, x 136, x 137, x 138, x 139, x 140, x 141, x 142, x 143, x 144, x 145, x 146, x 147, x 148, x 149, x 150, x 151, x 152, x 153, x 154, x 155, x 156, x 157, x 158, x 159, x 160, x 161, x 162, x 163, x 164, x 165, x 166, x 167, x 168, x 169, x 170, x 171, x 172, x 173, x 174, x 175, x 176, x 177, x 178, x 179, x 180, x 181, x 182, x 183, x 184, x 185, x 186, x 187, x 188, x 189, x 190, x 191, x 192, x 193, x 194, x 195, x 196, x 197, x 198, x 199, x 200, x 201, x 202, x 203, x 204, x 205, x 206, x 207, x 208, x 209, x 210, x 211, x 212, x 213, x 214, x 215, x 216, x 217, x 218, x 219, x 220, x 221, x 222, x 223, x 224, x 225, x 226, x 227, x 228, x 229, x 230, x 231, x 232, x 233, x 234, x 235] := rfl
theorem of_frame236 {P : Program} {C : Code} {Q : Exit → Act → World → Prop} {W : World} (A : Array Value) (hA : A.size = 236) (h : Code.wp P C Q ⟨frameOf 236 (fun t => A.getD t undef), []⟩ W) : Code.wp P C Q ⟨A, []⟩ W := by
 have e := frameOf_self ⟨A, []⟩
 simp only [hA] at e
 rw [e]
 exact h
end Go.Proofs.YtkhebanpplokdaaGreatDoor
namespace Go.Proofs.YtkhebanpplokdaaGreatDoor
open Go.ChangeShapes Go.WideShapes Go.ChangeAt Go.RowKit Go.Lib Go.Shelf Go.Maps
/-- an element reads as itself -/
def heldR (v : Value) : Option (DataW Value × List MemPlace) := some (.held v, [])
theorem heldR_inv {v u : Value} {ps : List MemPlace} (h : heldR v = some (.held u, ps)) : v = u := by
 unfold heldR at h
 cases h
 rfl
/-- block b is a map, of at most n entries, from the keys 'mk x' to what f tells -/
def MapV {α : Type} (mk : α → Lit) (w : World) (k : TypeId) (b n : Nat) (f : α → Option Value) : Prop :=
 ∃ D : DataW Value, w.ownsMap Tryz.prog k heldR b n D ∧ (∀ x z, D.atKey (mk x) (.held z) = .held ((f x).getD z)) ∧ ∀ x, Maps.has D (mk x) = (f x).isSome
section
variable {α : Type} {mk : α → Lit} {w : World} {k : TypeId} {b n : Nat} {f : α → Option Value}
theorem MapV.made (mk : α → Lit) (w : World) (k : TypeId) : MapV mk (w.alloc (.map #[] 0)) k w.heap.size 0 (fun _ => none) := ⟨_, World.ownsMap_made _ _ _ _, fun _ _ => rfl, fun _ => rfl⟩
theorem MapV.lt (h : MapV mk w k b n f) : b < w.heap.size := by
 obtain ⟨D, h1, -⟩ := h
 exact h1.lt
theorem MapV.mono (h : MapV mk w k b n f) {m : Nat} (hm : n ≤ m) : MapV mk w k b m f := by
 obtain ⟨D, h1, h2⟩ := h
 exact ⟨D, h1.mono hm, h2⟩
theorem MapV.kept {w' : World} {row : Option Nat} (h : MapV mk w k b n f) (hg : w.grownBy w' row) (hne : some b ≠ row) : MapV mk w' k b n f := by
 obtain ⟨D, h1, h2⟩ := h
 exact ⟨D, h1.kept hg hne, h2⟩
theorem MapV.ext {w' : World} (h : MapV mk w k b n f) (e : Ext w w') : MapV mk w' k b n f := h.kept (row := none) ⟨e.os, e.tape, e.output, e.size, fun i hi _ => e.block i hi⟩ (by simp)
theorem MapV.alloc (h : MapV mk w k b n f) (o : Obj) : MapV mk (w.alloc o) k b n f := by
 obtain ⟨D, h1, h2⟩ := h
 exact ⟨D, h1.alloc o, h2⟩
theorem MapV.setCell (h : MapV mk w k b n f) {a : Addr} (ha : b ≠ a.block) (u : Value) : MapV mk (w.setCell a u) k b n f := by
 obtain ⟨D, h1, h2⟩ := h
 exact ⟨D, h1.setCell ha u, h2⟩
theorem MapV.congr {g : α → Option Value} (h : MapV mk w k b n f) (e : ∀ x, f x = g x) : MapV mk w k b n g := by
 rw [← funext e]
 exact h
theorem MapV.look {t e : TypeId} (h : MapV mk w k b n f) (K : Keyed Tryz.prog k) (ht : Tryz.prog.underlying t = some (.map k e)) {z : Value} (hz : (zeroValue e).run Tryz.prog w = .ok z w) {key : Value} {x : α} (hkey : keyOf Tryz.prog k key = some (mk x)) :
  (Instr.lookup t (.map (some b)) key false).run Tryz.prog w = .ok ((f x).getD z) w := by
 obtain ⟨D, h1, h2, -⟩ := h
 obtain ⟨v, ps, hrun, hv⟩ := h1.lookup K ht hz (show heldR z = some (.held z, []) from rfl) hkey
 rw [h2] at hv
 rw [hrun, heldR_inv hv]
theorem MapV.put [DecidableEq α] {t e : TypeId} (h : MapV mk w k b n f) (hmk : ∀ x y, mk x = mk y → x = y) (K : Keyed Tryz.prog k) (ht : Tryz.prog.underlying t = some (.map k e)) (hn : n < maxLen) {key val : Value} {x : α} (hkey : keyOf Tryz.prog k key = some (mk x)) :
  ∃ w', (Instr.mapUpdate t (.map (some b)) key val).run Tryz.prog w = .ok () w' ∧ MapV mk w' k b (n + 1) (fun y => if y = x then some val else f y) ∧ w.mapTurned w' b := by
 obtain ⟨D, h1, h2, h3⟩ := h
 obtain ⟨w', hrun, r1, r2⟩ := h1.store K ht hn hkey (show heldR val = some (.held val, []) from rfl)
 have hk := K.key hkey
 refine ⟨w', hrun, ⟨_, r1, fun y z => ?_, fun y => ?_⟩, r2⟩
 ·by_cases e : y = x
  ·subst e
   rw [atKey_put_same h1.isMap hk]
   simp
  ·rw [atKey_put_other (fun e' => e (hmk _ _ e')), h2 y]
   simp [e]
 ·by_cases e : y = x
  ·subst e
   rw [has_put_same h1.isMap hk]
   simp
  ·rw [has_put_other (fun e' => e (hmk _ _ e')), h3 y]
   simp [e]
end
section
variable {α : Type} {mk : α → Lit} {k : TypeId} {b n : Nat} {f : α → Option Value} (w : World) {ops : Array Oper} {rest : List Oper} {o : Oper} {a : Act} {Q : Exit → Act → World → Prop}
end
theorem intLit_inj (x y : Int) (h : Lit.int .i64 x = Lit.int .i64 y) : x = y := by
 cases h
 rfl
theorem keyedI : Keyed Tryz.prog 3 := int_keyed Tryz.underlying3
theorem keyIn {z : Int} (hz : I64 z) : keyOf Tryz.prog 3 (.int .i64 z) = some (.int .i64 z) := keyOf_int_mk Tryz.underlying3 (WalkArith.wf_i64 hz)
end Go.Proofs.YtkhebanpplokdaaGreatDoor
