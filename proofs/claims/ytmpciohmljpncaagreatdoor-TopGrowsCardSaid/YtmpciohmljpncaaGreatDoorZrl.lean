/- Merged texts (Zr, RtK, RtJ). -/
import Derived.Test.YtmpciohmljpncaaGreatDoorZs
import Derived.Test.YtmpciohmljpncaaGreatDoorZb
import Derived.Deep.MidRow
import Derived.Deep.Cut
import Derived.Test.YtmpciohmljpncaaGreatDoorZa
import Derived.Sort.LotA
import Derived.Shelf.SlSortCmp.Insertion
import Derived.Sort.WalkA

/- ref08.within, policy, Check. -/
namespace Go.Proofs.YtmpciohmljpncaaGreatDoor
open Go.ChangeShapes Go.WideShapes Go.ChangeAt Go.RowKit Go.Lib Go.Shelf
def polB (q0 q1 q2 q3 q4 q5 q6 : Int) : Bool := !outB 1 10000 q0 && !outB 1 8 q1 && !outB 0 10000 q2 && !outB 0 10000 q3 && !outB 0 100 q4 && !outB 1 100 q5 && !outB 0 100 q6
end Go.Proofs.YtmpciohmljpncaaGreatDoor

/- route.Check's questions. -/
namespace Go.Proofs.YtmpciohmljpncaaGreatDoor
open Go.ChangeShapes Go.WideShapes Go.ChangeAt Go.RowKit Go.Lib Go.Shelf
/-- the 19 cells of a rule -/
def CellR (w : World) (b : Nat) (r : RuleD) : Prop := b < w.heap.size ∧ ∀ j u, (encR r)[j]? = some u → w.cell? ⟨b, j, none⟩ = some u
theorem CellR.ext {w w' : World} {b : Nat} {r : RuleD} (h : CellR w b r) (e : Ext w w') : CellR w' b r :=
 ⟨Nat.lt_of_lt_of_le h.1 e.size, fun j u hu => (e.cell (p := ⟨b, j, none⟩) h.1).trans (h.2 j u hu)⟩
theorem Tryz.ruleDesc0 : (Tryz.prog.underlying 57).map TypeDesc.isRow = some true := by kernel_rfl
theorem Tryz.ruleDesc : ∃ d, Tryz.prog.underlying 57 = some d ∧ d.isRow = true := by
 have h := Tryz.ruleDesc0
 revert h
 cases Tryz.prog.underlying 57 with
 | none => intro h; cases h
 | some d => intro h; exact ⟨d, rfl, by simpa using h⟩
theorem Tryz.ruleSize : (Tryz.prog.info? 57).map (·.size) = some 19 := by kernel_rfl
theorem CellR.load {w : World} {b : Nat} {r : RuleD} (h : CellR w b r) : (Instr.loadAt 57 (.pointer (some ⟨b, 0, none⟩))).run Tryz.prog w = .ok r.val w := by
 obtain ⟨d, h1, h2⟩ := Tryz.ruleDesc
 exact run_loadAt_mid w b 0 57 (encR r) d (fun j v hv => by rw [Nat.zero_add]; exact h.2 j v hv) h1 h2 Tryz.ruleSize
end Go.Proofs.YtmpciohmljpncaaGreatDoor

/- ref08.Check. -/
namespace Go.Proofs.YtmpciohmljpncaaGreatDoor
open Go.ChangeShapes Go.WideShapes Go.ChangeAt Go.RowKit Go.Lib Go.Shelf
def injB (ab de ti : Int) : Bool := outB 0 10000 ab || outB 0 10000 de || outB 0 10000 ti
/-- how a rule is wrong -/
def rchk (r : RuleD) (rates : Int) : Int :=
 if mchk (bl r.path) r.H ≠ 0 then mchk (bl r.path) r.H else if Sp.check r.P ≠ 0 then Sp.check r.P else if outB 0 10 r.mi = true then 13 else
 if injB r.ab r.de r.ti = true then 16 else if wrchk r.pre r.S r.D ≠ 0 then wrchk r.pre r.S r.D else if polB r.q0 r.q1 r.q2 r.q3 r.q4 r.q5 r.q6 = false then 16 else
 if outB 0 rates r.rate = true then 15 else 0
end Go.Proofs.YtmpciohmljpncaaGreatDoor

/- route.twin: the same rule, in new memory. -/
namespace Go.Proofs.YtmpciohmljpncaaGreatDoor
open Go.ChangeShapes Go.WideShapes Go.ChangeAt Go.RowKit Go.Lib Go.Shelf
/-- the rule's lists are the call's own -/
def RuleOwn (B : Nat) (w : World) (r : RuleD) : Prop :=
 w.ownsRow B 169 2 r.hv r.H.length (r.H.flatMap encH) ∧ w.ownsRow B 60 2 r.pv r.P.length (r.P.flatMap encP) ∧
 w.ownsRow B 169 2 r.sv r.S.length (r.S.flatMap encH) ∧ w.ownsRow B 9 1 r.dv r.D.length (r.D.flatMap encS)
theorem encP_len' (p : Int × Int) : (encP p).length = 2 := rfl
theorem RuleOwn.ok {B : Nat} {w : World} {r : RuleD} (h : RuleOwn B w r) : RuleOk w r := ⟨Sl.of_own' encH_len h.1, Sl.of_own' encP_len' h.2.1, Sl.of_own' encH_len h.2.2.1, Sl.of_own' encS_len h.2.2.2⟩
/-- the blocks of a rule's lists -/
def RuleD.has (r : RuleD) (g : Nat) : Prop := r.hv.ownBlock = some g ∨ r.pv.ownBlock = some g ∨ r.sv.ownBlock = some g ∨ r.dv.ownBlock = some g
theorem RuleOwn.keeps {X : Nat → Prop} {B : Nat} {w w' : World} {r : RuleD} (h : RuleOwn B w r) (k : Keeps X w w') (hx : ∀ g, r.has g → ¬ X g) : RuleOwn B w' r :=
 ⟨owns_keeps h.1 k fun g hg => hx g (.inl hg), owns_keeps h.2.1 k fun g hg => hx g (.inr (.inl hg)), owns_keeps h.2.2.1 k fun g hg => hx g (.inr (.inr (.inl hg))), owns_keeps h.2.2.2 k fun g hg => hx g (.inr (.inr (.inr hg)))⟩
theorem RuleOwn.ext {B : Nat} {w w' : World} {r : RuleD} (h : RuleOwn B w r) (k : Ext w w') : RuleOwn B w' r := ⟨owns_ext h.1 k, owns_ext h.2.1 k, owns_ext h.2.2.1 k, owns_ext h.2.2.2 k⟩
theorem RuleOwn.type {B : Nat} {w : World} {r : RuleD} (h : RuleOwn B w r) {g : Nat} (hg : r.has g) {cs : Array Value} {e : TypeId} {f : Nat × Nat} (hh : w.heap[g]? = some (.cells cs e f)) : e = 169 ∨ e = 60 ∨ e = 9 := by
 rcases hg with hg | hg | hg | hg
 ·exact .inl (owns_type h.1 hg hh)
 ·exact .inr (.inl (owns_type h.2.1 hg hh))
 ·exact .inl (owns_type h.2.2.1 hg hh)
 ·exact .inr (.inr (owns_type h.2.2.2 hg hh))
theorem RuleOwn.mono {B B' : Nat} {w : World} {r : RuleD} (h : RuleOwn B w r) (hB : B' ≤ B) : RuleOwn B' w r := by
 have m : ∀ {e : TypeId} {size : Nat} {v : Value} {n : Nat} {xs : List Value}, w.ownsRow B e size v n xs → w.ownsRow B' e size v n xs := fun h => by
  obtain ⟨h1, h2⟩ := h
  refine ⟨h1, ?_⟩
  rcases h2 with h2 | ⟨g, cap, cur, hv, hg, r⟩
  ·exact .inl h2
  ·exact .inr ⟨g, cap, cur, hv, by omega, r⟩
 exact ⟨m h.1, m h.2.1, m h.2.2.1, m h.2.2.2⟩
/-- a rule's box -/
def BoxR (w : World) (b : Nat) (r : RuleD) : Prop := ∃ cs, w.heap[b]? = some (.cells cs 57 (0, 0)) ∧ cs.toList = encR r
theorem BoxR.cellR {w : World} {b : Nat} {r : RuleD} (h : BoxR w b r) : CellR w b r := by
 obtain ⟨cs, hb, hc⟩ := h
 refine ⟨(Array.getElem?_eq_some_iff.1 hb).1, fun j u hu => ?_⟩
 rw [← hc] at hu
 simp only [World.cell?, hb]
 simpa using hu
theorem BoxR.frozen {w : World} {b : Nat} {r : RuleD} (h : BoxR w b r) (o : Nat) : w.frozen? ⟨b, o, none⟩ = false := by
 obtain ⟨cs, hb, hc⟩ := h
 simp [World.frozen?, hb]
theorem BoxR.keep {w w' : World} {b : Nat} {r : RuleD} (h : BoxR w b r) (k : w'.heap[b]? = w.heap[b]?) : BoxR w' b r := by
 obtain ⟨cs, hb, hc⟩ := h
 exact ⟨cs, k.trans hb, hc⟩
theorem BoxR.lt {w : World} {b : Nat} {r : RuleD} (h : BoxR w b r) : b < w.heap.size := h.cellR.1
theorem BoxR.set {w : World} {b : Nat} {r r' : RuleD} (h : BoxR w b r) (j : Nat) (v : Value) (hr : encR r' = (encR r).set j v) : BoxR (w.setCell ⟨b, j, none⟩ v) b r' := by
 obtain ⟨cs, hb, hc⟩ := h
 obtain ⟨hlt, hk⟩ := Array.getElem?_eq_some_iff.1 hb
 refine ⟨cs.setIfInBounds j v, ?_, by rw [hr, ← hc]; simp⟩
 show (w.heap.modify b _)[b]? = _
 rw [Array.getElem?_eq_getElem (by rw [Array.size_modify]; exact hlt), Array.getElem_modify_self, hk]
 rfl
theorem results_cell_mid {P : Program} {fn : Func} {p : Tmp} {ty : TypeId} (h : fn.results = #[.cell p ty]) (tmps : Array Value) (w : World) (b o : Nat) (cs : List Value) (d : TypeDesc)
  (hp : tmps.getD p undef = .pointer (some ⟨b, o, none⟩)) (hc : w.rangeAt b o cs) (hu : P.underlying ty = some d) (hd : d.isRow = true) (hi : (P.info? ty).map (·.size) = some cs.length) :
  (results fn tmps).run P w = .ok (.agg cs.toArray) w := by
 have hp' : tmps[p]?.getD undef = .pointer (some ⟨b, o, none⟩) := by simpa using hp
 simp [results, h, hp', asAddr, run_loadVar_mid w b o ty cs d hc hu hd hi]
theorem keeps_setCells (b : Nat) : ∀ (vs : List Value) (o : Nat) (w : World), Keeps (fun g => g = b) w (w.setCells b o vs)
 | [], _, w => Keeps.refl _ w
 | v :: r, o, w => (Keeps.of_set (X := fun g => g = b) w b o v rfl).trans (keeps_setCells b r (o + 1) _)
theorem encH_one (h : HeadD) : ∀ u ∈ encH h, u.oneCell' = true := by
 intro u hu
 simp [encH] at hu
 rcases hu with rfl | rfl <;> rfl
theorem encP_one (h : Int × Int) : ∀ u ∈ encP h, u.oneCell' = true := by
 intro u hu
 simp [encP] at hu
 rcases hu with rfl | rfl <;> rfl
theorem encI_one (h : Int) : ∀ u ∈ encI h, u.oneCell' = true := by
 intro u hu
 simp [encI] at hu
 subst hu
 rfl
theorem Tryz.infoH : (Tryz.prog.info? 169).map (fun i => (i.zero, i.size, i.bytes)) = some (some (.agg #[.string ByteArray.empty, .string ByteArray.empty]), 2, 32) := by kernel_rfl
theorem Tryz.infoP : (Tryz.prog.info? 60).map (fun i => (i.zero, i.size, i.bytes)) = some (some (.agg #[.int .i64 0, .int .i64 0]), 2, 16) := by kernel_rfl
end Go.Proofs.YtmpciohmljpncaaGreatDoor

/- The row of rules by precedence, in plain Lean: a stable insertion sort of the numbers below n. -/
namespace Go.Proofs.YtmpciohmljpncaaGreatDoor
open Go.Sort
end Go.Proofs.YtmpciohmljpncaaGreatDoor

/- route.New: the table as it is being made. -/
namespace Go.Proofs.YtmpciohmljpncaaGreatDoor
open Go.ChangeShapes Go.WideShapes Go.ChangeAt Go.RowKit Go.Lib Go.Shelf
abbrev Rules := Sl encR 19
/-- what a rule says, wherever its lists lie -/
def RuleD.core (r : RuleD) : RuleD := { r with hv := .slice none 0 0, pv := .slice none 0 0, sv := .slice none 0 0, dv := .slice none 0 0 }
def nerr (R : List RuleD) (rates : Int) : Int := if 20 < R.length then 2 else ((R.map (rchk · rates)).find? (· != 0)).getD 0
theorem encR_one (r : RuleD) {B : Nat} {w : World} (h : RuleOwn B w r) : ∀ u ∈ encR r, u.oneCell' = true := by
 obtain ⟨path, ex, hv, H, pv, P, mi, ab, de, ti, pre, sv, S, dv, D, q0, q1, q2, q3, q4, q5, q6, rate⟩ := r
 obtain ⟨a, c, h1⟩ := owns_shape h.1
 obtain ⟨a2, c2, h2⟩ := owns_shape h.2.1
 obtain ⟨a3, c3, h3⟩ := owns_shape h.2.2.1
 obtain ⟨a4, c4, h4⟩ := owns_shape h.2.2.2
 simp only at h1 h2 h3 h4
 subst h1 h2 h3 h4
 intro u hu
 simp [encR] at hu
 rcases hu with rfl | rfl | rfl | rfl | rfl | rfl | rfl | rfl | rfl | rfl | rfl | rfl | rfl | rfl | rfl | rfl | rfl | rfl | rfl <;> rfl
theorem encR_one' (r : RuleD) {w : World} (h : RuleOk w r) : ∀ u ∈ encR r, u.oneCell' = true := by
 obtain ⟨path, ex, hv, H, pv, P, mi, ab, de, ti, pre, sv, S, dv, D, q0, q1, q2, q3, q4, q5, q6, rate⟩ := r
 obtain ⟨-, a, c, h1⟩ := h.1.shape
 obtain ⟨-, a2, c2, h2⟩ := h.2.1.shape
 obtain ⟨-, a3, c3, h3⟩ := h.2.2.1.shape
 obtain ⟨-, a4, c4, h4⟩ := h.2.2.2.shape
 simp only at h1 h2 h3 h4
 subst h1 h2 h3 h4
 intro u hu
 simp [encR] at hu
 rcases hu with rfl | rfl | rfl | rfl | rfl | rfl | rfl | rfl | rfl | rfl | rfl | rfl | rfl | rfl | rfl | rfl | rfl | rfl | rfl <;> rfl
theorem rules_at {w : World} {a : Option Addr} {n cap : Nat} {xs : List RuleD} (h : Rules w (.slice a n cap) xs) (i : Nat) (hi : i < xs.length) :
  ∃ b off, a = some ⟨b, off, none⟩ ∧ b < w.heap.size ∧ ∀ j u, (encR xs[i])[j]? = some u → w.cell? ⟨b, off + i * 19 + j, none⟩ = some u := by
 obtain ⟨_, a', cap', hv, _, hc⟩ := h
 cases hv
 exact hc i xs[i] (List.getElem?_eq_getElem hi)
theorem Tryz.infoR : (Tryz.prog.info? 57).map (fun i => (i.size, i.bytes, i.zero.map fun z => z.cells.size)) = some (19, 232, some 19) := by kernel_rfl
theorem info_partsR : ∃ i z, Tryz.prog.info? 57 = some i ∧ i.zero = some z ∧ i.size = 19 ∧ i.bytes = 232 ∧ z.cells.size = 19 := by
 have h := Tryz.infoR
 revert h
 cases Tryz.prog.info? 57 with
 | none => intro h; cases h
 | some i =>
  intro h
  simp only [Option.map_some, Option.some.injEq, Prod.mk.injEq] at h
  obtain ⟨h1, h2, h3⟩ := h
  cases hz : i.zero with
  | none => rw [hz] at h3; cases h3
  | some z =>
   rw [hz] at h3
   exact ⟨i, z, rfl, hz, h1, h2, by simpa using h3⟩
theorem rules_new1 (w : World) (r : RuleD) (T : TypeId) : Rules (w.alloc (.cells (encR r).toArray T)) (.slice (some ⟨w.heap.size, 0, none⟩) 1 1) [r] := by
 have h := World.ownsRow_lit (base := 0) (e := T) (size := 19) w (encR r).toArray 1 (Nat.zero_le _) (by unfold maxLen; omega) rfl
 refine Sl.of_own' encR_len (base := 0) (e := T) ?_
 have e : ([r] : List RuleD).flatMap encR = (encR r).toArray.toList := by simp
 rw [e]
 exact h
theorem ints_new1 (w : World) (z : Int) (T : TypeId) : Ints (w.alloc (.cells #[.int .i64 z] T)) (.slice (some ⟨w.heap.size, 0, none⟩) 1 1) [z] := by
 have h := World.ownsRow_lit (base := 0) (e := T) (size := 1) w #[.int .i64 z] 1 (Nat.zero_le _) (by unfold maxLen; omega) rfl
 exact Sl.of_own' (enc := encI) (xs := [z]) (fun _ => rfl) (base := 0) (e := T) h
end Go.Proofs.YtmpciohmljpncaaGreatDoor
namespace Go.Proofs.YtmpciohmljpncaaGreatDoor
open Go.ChangeShapes Go.WideShapes Go.ChangeAt Go.RowKit Go.Lib Go.Shelf
theorem flat_get (l : List Int) (i : Nat) : (l.flatMap encI)[i]? = (l[i]?).map (Value.int .i64) := by
 have : l.flatMap encI = l.map (Value.int .i64) := by
  induction l with
  | nil => rfl
  | cons x l ih => simp [encI] at ih ⊢; exact ih
 rw [this, List.getElem?_map]
end Go.Proofs.YtmpciohmljpncaaGreatDoor
namespace Go.Proofs.YtmpciohmljpncaaGreatDoor
open Go.ChangeShapes Go.WideShapes Go.ChangeAt Go.RowKit Go.Lib Go.Shelf
theorem nerr_all (R : List RuleD) (rates : Int) (h20 : ¬ 20 < R.length) (h : ∀ x ∈ R, rchk x rates = 0) : nerr R rates = 0 := by
 unfold nerr
 rw [if_neg h20]
 have hn : (R.map (rchk · rates)).find? (· != 0) = none := by
  rw [List.find?_eq_none]
  intro x hx
  obtain ⟨y, hy, rfl⟩ := List.mem_map.1 hx
  simp [h y hy]
 rw [hn]
 rfl
theorem Tryz.infoI : (Tryz.prog.info? 3).map (fun i => (i.zero, i.size, i.bytes)) = some (some (.int .i64 0), 1, 8) := by kernel_rfl
end Go.Proofs.YtmpciohmljpncaaGreatDoor
