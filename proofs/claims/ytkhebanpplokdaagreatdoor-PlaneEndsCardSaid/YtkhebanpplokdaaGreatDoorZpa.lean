/- Merged texts (PnP, MpS, PnA, PnB). -/
import Derived.Test.YtkhebanpplokdaaGreatDoorZcb
import Derived.DeepKeys4
namespace Go.Proofs.YtkhebanpplokdaaGreatDoor
open Go.ChangeShapes Go.WideShapes Go.ChangeAt Go.RowKit Go.Lib Go.Shelf Go.Maps
/-- what is known of a version: the block of its snap (none: it was dropped), how many proxies have it, how often it is pinned -/
structure MadeD where
 b : Option Nat
 acks : Int
 pins : Int
def ptrO (b : Option Nat) : Value := .pointer (b.map fun b => ⟨b, 0, none⟩)
def encM (m : MadeD) : List Value := [ptrO m.b, .int .i64 m.acks, .int .i64 m.pins]
theorem encM_len (m : MadeD) : (encM m).length = 3 := rfl
def made0 : MadeD := ⟨none, 0, 0⟩
/-- a plane: how many proxies, the versions, what each proxy said of each version (0 nothing, 1 it has it, 2 it refuses it) -/
structure PlD where
 k : Int
 V : List MadeD
 said : Int × Int → Int
/-- the greatest number up to n of which something is so; 0: there is none -/
def gtN (P : Nat → Bool) : Nat → Nat
 | 0 => 0
 | n + 1 => if P (n + 1) = true then n + 1 else gtN P n
theorem gtN_le (P : Nat → Bool) : ∀ n, gtN P n ≤ n
 | 0 => Nat.le_refl _
 | n + 1 => by
  have := gtN_le P n
  unfold gtN
  split <;> omega
theorem gtN_congr {P Q : Nat → Bool} : ∀ n, (∀ v, 1 ≤ v → v ≤ n → P v = Q v) → gtN P n = gtN Q n
 | 0, _ => rfl
 | n + 1, h => by
  unfold gtN
  rw [h (n + 1) (by omega) (Nat.le_refl _), gtN_congr n fun v h1 h2 => h v h1 (by omega)]
/-- the greatest one from n on down is the greatest one: what a loop down has seen -/
theorem gtN_down (P : Nat → Bool) : ∀ (n m : Nat), m ≤ n → (∀ v, m < v → v ≤ n → P v = false) → gtN P n = gtN P m
 | 0, m, hm, _ => by
  obtain rfl : m = 0 := by omega
  rfl
 | n + 1, m, hm, h => by
  by_cases e : m = n + 1
  ·rw [e]
  ·have h1 := h (n + 1) (by omega) (Nat.le_refl _)
   have h4 : gtN P (n + 1) = gtN P n := by
    show (if P (n + 1) = true then n + 1 else gtN P n) = gtN P n
    rw [if_neg (by rw [h1]; decide)]
   rw [h4]
   exact gtN_down P n m (by omega) fun v h2 h3 => h v h2 (by omega)
theorem gtN_at (P : Nat → Bool) (n m : Nat) (hm : m + 1 ≤ n) (h : ∀ v, m + 1 < v → v ≤ n → P v = false) (hp : P (m + 1) = true) : gtN P n = m + 1 := by
 rw [gtN_down P n (m + 1) hm h]
 unfold gtN
 rw [if_pos hp]
def ackAt (p : PlD) (v : Nat) : Bool := decide ((p.V.getD (v - 1) made0).acks = p.k)
def liveN (p : PlD) : Nat := gtN (ackAt p) p.V.length
def nextN (p : PlD) (pr : Int) : Nat := gtN (fun v => decide (p.said (pr, (v : Int)) = 0)) p.V.length
def hasN (p : PlD) (pr : Int) : Nat := gtN (fun v => decide (p.said (pr, (v : Int)) = 1)) p.V.length
def isPr (p : PlD) (n : Int) : Bool := decide (0 ≤ n) && decide (n < p.k)
def wasM (p : PlD) (v : Int) : Bool := decide (1 ≤ v) && decide (v ≤ (p.V.length : Int))
/-- what a saying is answered -/
def sayE (p : PlD) (pr v : Int) : Int := if isPr p pr = false then 1 else if wasM p v = false then 17 else if p.said (pr, v) ≠ 0 then 5 else 0
def sayP (p : PlD) (pr v x : Int) : PlD := { p with said := fun y => if y = (pr, v) then x else p.said y }
def upM (m : MadeD) : MadeD := ⟨m.b, m.acks + 1, m.pins⟩
def ackP (p : PlD) (pr v : Int) : PlD := { sayP p pr v 1 with V := p.V.set (v.toNat - 1) (upM (p.V.getD (v.toNat - 1) made0)) }
/-! ## PlaneRow: places 0 .. 3k - 1, of version j / 3 + 1 and proxy j % 3; those of which D is so were told -/
end Go.Proofs.YtkhebanpplokdaaGreatDoor
namespace Go.Proofs.YtkhebanpplokdaaGreatDoor
open Go.ChangeShapes Go.WideShapes Go.ChangeAt Go.RowKit Go.Lib Go.Shelf Go.Maps
/-- a struct of two fields of one integer type -/
structure Two (P : Program) (k e : TypeId) (q : IntKind) : Prop where
 hu : ∃ fs, P.underlying k = some (.struct fs) ∧ fs.toList.map (fun f => (f.type, f.offset)) = [(e, 0), (e, 1)] ∧ fs.all (·.name != "_") = true
 he : P.underlying e = some (.int q)
 one : P.cellsOf e = 1
 two : P.cellsOf k = 2
 kt : P.keyType k = true
 sz : ∃ m, P.types.size = m + 1
theorem Two.lits {P : Program} {k e : TypeId} {q : IntKind} (T : Two P k e q) (d : Nat) {a b : Int} (wa : (Lit.int q a).wf = true) (wb : (Lit.int q b).wf = true) : P.keyLits (d + 2) k [.int q a, .int q b] = some [.int q a, .int q b] := by
 obtain ⟨fs, hu, hf, hn⟩ := T.hu
 have h1 : ∀ x, (Lit.int q x).wf = true → P.keyLits (d + 1) e [.int q x] = some [.int q x] := fun x hx => by
  unfold Program.keyLits
  simp [T.he, hx]
 unfold Program.keyLits
 simp only [hu]
 rw [if_pos ⟨by rw [T.two]; rfl, hn⟩]
 rcases hl : fs.toList with _ | ⟨f1, _ | ⟨f2, _ | ⟨f3, l⟩⟩⟩
 ·rw [hl] at hf; simp at hf
 ·rw [hl] at hf; simp at hf
 ·rw [hl] at hf
  simp only [List.map_cons, List.map_nil, List.cons.injEq, Prod.mk.injEq, and_true] at hf
  obtain ⟨⟨t1, o1⟩, t2, o2⟩ := hf
  simp only [List.mapM_cons, List.mapM_nil, t1, t2, o1, o2, T.one]
  simp [h1 a wa, h1 b wb]
 ·rw [hl] at hf; simp at hf
theorem Two.key {P : Program} {k e : TypeId} {q : IntKind} (T : Two P k e q) {a b : Int} (wa : (Lit.int q a).wf = true) (wb : (Lit.int q b).wf = true) : keyOf P k (.agg #[.int q a, .int q b]) = some (.string (keyBytes [.int q a, .int q b])) := by
 obtain ⟨fs, hu, hf, hn⟩ := T.hu
 obtain ⟨m, hm⟩ := T.sz
 have hl := T.lits m wa wb
 unfold keyOf
 simp only [hu]
 rw [if_pos (by simp [T.kt, Value.formed, hu, T.two]), hm]
 show (P.keyLits (m + 2) k [.int q a, .int q b]).map _ = _
 rw [hl]
 rfl
theorem keyed_struct {P : Program} (hl : laidOutB P = true) {k : TypeId} {fs : Array Field} (hu : P.underlying k = some (.struct fs)) (hrow : k < P.types.size) (hk : P.keyTypeAt 2 k = true) : Keyed P k :=
 Keyed.of_law (deep_law_laid hl (m := 2) (by decide) hrow hk (by rw [hu]))
theorem Two.inj {P : Program} {k e : TypeId} {q : IntKind} (T : Two P k e q) {a b a' b' : Int} (wa : (Lit.int q a).wf = true) (wb : (Lit.int q b).wf = true) (wa' : (Lit.int q a').wf = true) (wb' : (Lit.int q b').wf = true)
  (h : keyBytes [.int q a, .int q b] = keyBytes [.int q a', .int q b']) : a = a' ∧ b = b' := by
 have := keyLits_inj (T.lits 0 wa wb) (T.lits 0 wa' wb') h
 simpa using this
end Go.Proofs.YtkhebanpplokdaaGreatDoor
namespace Go.Proofs.YtkhebanpplokdaaGreatDoor
open Go.ChangeShapes Go.WideShapes Go.ChangeAt Go.RowKit Go.Lib Go.Shelf Go.Maps
/-- a proxy and a version -/
abbrev Keyd := { x : Int × Int // I64 x.1 ∧ I64 x.2 }
def mkA (x : Keyd) : Lit := .string (keyBytes [.int .i64 x.1.1, .int .i64 x.1.2])
theorem Tryz.aboutTwo : Two Tryz.prog 131 3 .i64 :=
 ⟨⟨_, Tryz.underlying131, by kernel_rfl, by kernel_rfl⟩, Tryz.underlying3, by kernel_rfl, by kernel_rfl, by kernel_rfl, ⟨_, rfl⟩⟩
theorem mkA_key (x : Keyd) : keyOf Tryz.prog 131 (.agg #[.int .i64 x.1.1, .int .i64 x.1.2]) = some (mkA x) := Tryz.aboutTwo.key (WalkArith.wf_i64 x.2.1) (WalkArith.wf_i64 x.2.2)
theorem mkA_inj (x y : Keyd) (h : mkA x = mkA y) : x = y := by
 unfold mkA at h
 have h1 : keyBytes [.int .i64 x.1.1, .int .i64 x.1.2] = keyBytes [.int .i64 y.1.1, .int .i64 y.1.2] := by simpa using h
 obtain ⟨e1, e2⟩ := Tryz.aboutTwo.inj (WalkArith.wf_i64 x.2.1) (WalkArith.wf_i64 x.2.2) (WalkArith.wf_i64 y.2.1) (WalkArith.wf_i64 y.2.2) h1
 exact Subtype.ext (Prod.ext e1 e2)
theorem aboutLaid : laidOutB Tryz.prog = true := by kernel_rfl
theorem aboutRow : (131 : TypeId) < Tryz.prog.types.size := of_decide_eq_true (by kernel_rfl)
theorem aboutKt : Tryz.prog.keyTypeAt 2 131 = true := by kernel_rfl
theorem keyedA : Keyed Tryz.prog 131 := keyed_struct aboutLaid Tryz.underlying131 aboutRow aboutKt
def saidF (p : PlD) (x : Keyd) : Option Value := if p.said x.1 = 0 then none else some (.int .i64 (p.said x.1))
/-- a plane in block p; its map in block bm (of at most N entries), its versions in the row vv -/
structure PlaneIs (B : Nat) (w : World) (p bm : Nat) (vv : Value) (N : Nat) (pl : PlD) : Prop where
 hp : B ≤ p
 hm : B ≤ bm
 box : w.heap[p]? = some (.cells #[.int .i64 pl.k, vv, .map (some bm)] 115 (0, 0))
 row : w.ownsRow B 117 3 vv pl.V.length (pl.V.flatMap encM)
 sm : ∃ n, n ≤ N ∧ MapV mkA w 131 bm n (saidF pl)
 ver : ∀ i (hi : i < pl.V.length) b, pl.V[i].b = some b → w.cell? ⟨b, 0, none⟩ = some (.int .i64 ((i : Int) + 1)) ∧ ∃ cs f, w.heap[b]? = some (.cells cs 45 f)
section
variable {B : Nat} {w w' : World} {p bm : Nat} {vv : Value} {N : Nat} {pl : PlD}
theorem PlaneIs.lt (h : PlaneIs B w p bm vv N pl) : p < w.heap.size := (Array.getElem?_eq_some_iff.1 h.box).1
theorem PlaneIs.ext (h : PlaneIs B w p bm vv N pl) (e : Ext w w') : PlaneIs B w' p bm vv N pl := by
 obtain ⟨n, hn, hs⟩ := h.sm
 refine ⟨h.hp, h.hm, (e.block p h.lt).trans h.box, owns_ext h.row e, ⟨n, hn, hs.ext e⟩, fun i hi b hb => ?_⟩
 obtain ⟨h1, cs, f, h2⟩ := h.ver i hi b hb
 exact ⟨(e.cell (p := ⟨b, 0, none⟩) (World.block_lt_of_cell? w _ h1)).trans h1, cs, f, (e.block b (Array.getElem?_eq_some_iff.1 h2).1).trans h2⟩
theorem PlaneIs.c0 (h : PlaneIs B w p bm vv N pl) : w.cell? ⟨p, 0, none⟩ = some (.int .i64 pl.k) := by simp only [World.cell?, h.box]; rfl
theorem PlaneIs.c1 (h : PlaneIs B w p bm vv N pl) : w.cell? ⟨p, 1, none⟩ = some vv := by simp only [World.cell?, h.box]; rfl
theorem PlaneIs.c2 (h : PlaneIs B w p bm vv N pl) : w.cell? ⟨p, 2, none⟩ = some (.map (some bm)) := by simp only [World.cell?, h.box]; rfl
theorem PlaneIs.mono (h : PlaneIs B w p bm vv N pl) {N' : Nat} (hN : N ≤ N') : PlaneIs B w p bm vv N' pl := by
 obtain ⟨n, hn, hs⟩ := h.sm
 exact ⟨h.hp, h.hm, h.box, h.row, ⟨n, Nat.le_trans hn hN, hs⟩, h.ver⟩
end
end Go.Proofs.YtkhebanpplokdaaGreatDoor
namespace Go.Proofs.YtkhebanpplokdaaGreatDoor
open Go.ChangeShapes Go.WideShapes Go.ChangeAt Go.RowKit Go.Lib Go.Shelf Go.Maps
theorem isProxy_any {B : Nat} {w : World} {p bm : Nat} {vv : Value} {N : Nat} {pl : PlD} (h : PlaneIs B w p bm vv N pl) (n : Int) :
  Calls Tryz.prog 55 #[.pointer (some ⟨p, 0, none⟩), .int .i64 n] w fun e w' => e = .returned (.bool (isPr pl n)) ∧ w = w' := by
 have c0 := h.c0
 unfold isPr
 generalize pl.k = k at c0 ⊢
 clear h
 by_cases h1 : 0 ≤ n
 ·by_cases h2 : n < k
  ·have e1 : decide (0 ≤ n) = true := decide_eq_true h1
   have e2 : decide (n < k) = true := decide_eq_true h2
   have h3 : n ≥ 0 := h1
   rw [e1, e2]
   go_enter Tryz.func55, Tryz.ntmps55
   go_wp2
   go_ret
   exact ⟨rfl, rfl⟩
  ·have e1 : decide (0 ≤ n) = true := decide_eq_true h1
   have e2 : decide (n < k) = false := decide_eq_false h2
   have h3 : n ≥ 0 := h1
   rw [e1, e2]
   go_enter Tryz.func55, Tryz.ntmps55
   go_wp2
   go_ret
   exact ⟨rfl, rfl⟩
 ·have e1 : decide (0 ≤ n) = false := decide_eq_false h1
  have h3 : ¬ n ≥ 0 := h1
  rw [e1]
  go_enter Tryz.func55, Tryz.ntmps55
  go_wp2
  go_ret
  exact ⟨rfl, rfl⟩
theorem wasMade_any {B : Nat} {w : World} {p bm : Nat} {vv : Value} {N : Nat} {pl : PlD} (h : PlaneIs B w p bm vv N pl) (v : Int) :
  Calls Tryz.prog 98 #[.pointer (some ⟨p, 0, none⟩), .int .i64 v] w fun e w' => e = .returned (.bool (wasM pl v)) ∧ w = w' := by
 have c1 := h.c1
 obtain ⟨a, c, hv⟩ := owns_shape h.row
 rw [hv] at c1
 unfold wasM
 generalize pl.V.length = n at c1 ⊢
 clear h hv
 by_cases h1 : 1 ≤ v
 ·by_cases h2 : v ≤ (n : Int)
  ·have e1 : decide (1 ≤ v) = true := decide_eq_true h1
   have e2 : decide (v ≤ (n : Int)) = true := decide_eq_true h2
   have h3 : v ≥ 1 := h1
   rw [e1, e2]
   go_enter Tryz.func98, Tryz.ntmps98
   go_wp2
   go_ret
   exact ⟨rfl, rfl⟩
  ·have e1 : decide (1 ≤ v) = true := decide_eq_true h1
   have e2 : decide (v ≤ (n : Int)) = false := decide_eq_false h2
   have h3 : v ≥ 1 := h1
   rw [e1, e2]
   go_enter Tryz.func98, Tryz.ntmps98
   go_wp2
   go_ret
   exact ⟨rfl, rfl⟩
 ·have e1 : decide (1 ≤ v) = false := decide_eq_false h1
  have h3 : ¬ v ≥ 1 := h1
  rw [e1]
  go_enter Tryz.func98, Tryz.ntmps98
  go_wp2
  go_ret
  exact ⟨rfl, rfl⟩
end Go.Proofs.YtkhebanpplokdaaGreatDoor
