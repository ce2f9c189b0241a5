/- Merged texts (Zr, Ins, RtG, RtK, RtJ, Zl). -/
import Derived.Test.YtceaeiaoanhlnaaDoorZsw
import Derived.Test.YtceaeiaoanhlnaaDoorZbw
import Derived.Deep.MidRow
import Derived.Deep.Cut
import Derived.Test.YtceaeiaoanhlnaaDoorZaw
import Derived.Sort.LotA
import Derived.Shelf.SlSortCmp.Insertion
import Derived.Sort.WalkA
import Derived.Test.YtceaeiaoanhlnaaDoorZmhw

/- ref08.within, policy, Check. -/
namespace Go.Proofs.YtceaeiaoanhlnaaDoor
open Go.ChangeShapes Go.WideShapes Go.ChangeAt Go.RowKit Go.Lib Go.Shelf
def polB (q0 q1 q2 q3 q4 q5 q6 : Int) : Bool := !outB 1 10000 q0 && !outB 1 8 q1 && !outB 0 10000 q2 && !outB 0 10000 q3 && !outB 0 100 q4 && !outB 1 100 q5 && !outB 0 100 q6
end Go.Proofs.YtceaeiaoanhlnaaDoor

/- route.Check's questions. -/
namespace Go.Proofs.YtceaeiaoanhlnaaDoor
open Go.ChangeShapes Go.WideShapes Go.ChangeAt Go.RowKit Go.Lib Go.Shelf
/-- the 19 cells of a rule -/
def CellR (w : World) (b : Nat) (r : RuleD) : Prop := b < w.heap.size ∧ ∀ j u, (encR r)[j]? = some u → w.cell? ⟨b, j, none⟩ = some u
theorem CellR.ext {w w' : World} {b : Nat} {r : RuleD} (h : CellR w b r) (e : Ext w w') : CellR w' b r :=
 ⟨Nat.lt_of_lt_of_le h.1 e.size, fun j u hu => (e.cell (p := ⟨b, j, none⟩) h.1).trans (h.2 j u hu)⟩
theorem Tryd.ruleDesc0 : (Tryd.prog.underlying 43).map TypeDesc.isRow = some true := by kernel_rfl
theorem Tryd.ruleDesc : ∃ d, Tryd.prog.underlying 43 = some d ∧ d.isRow = true := by
 have h := Tryd.ruleDesc0
 revert h
 cases Tryd.prog.underlying 43 with
 | none => intro h; cases h
 | some d => intro h; exact ⟨d, rfl, by simpa using h⟩
theorem Tryd.ruleSize : (Tryd.prog.info? 43).map (·.size) = some 19 := by kernel_rfl
set_option maxRecDepth 100000 in
set_option maxHeartbeats 2000000 in
theorem ck1_any (r : RuleD) (b : Nat) (w : World) (hc : CellR w b r) (hok : RuleOk w r) (hf : RuleFit r) (hm : MaxV w) :
  Calls Tryd.prog 71 #[.pointer (some ⟨b, 0, none⟩)] w fun e w' => e = .returned (.int .i64 (mchk (bl r.path) r.H)) ∧ Ext w w' := by
 obtain ⟨path, ex, hv, H, pv, P, mi, ab, de, ti, pre, sv, S, dv, D, q0, q1, q2, q3, q4, q5, q6, rate⟩ := r
 obtain ⟨hH, hP, hS, hD⟩ := hok
 obtain ⟨zp, zpre, zH, zS, zD, zP, zl⟩ := hf
 simp only at *
 obtain ⟨_, a1, c1, rfl⟩ := hH.shape
 obtain ⟨_, a2, c2, rfl⟩ := hP.shape
 obtain ⟨_, a3, c3, rfl⟩ := hS.shape
 obtain ⟨_, a4, c4, rfl⟩ := hD.shape
 have d0 := hc.2 0 _ rfl
 have d1 := hc.2 1 _ rfl
 have d2 := hc.2 2 _ rfl
 have HM := hide (mchk_any path ex H _ w zp hm hH zH)
 clear hc hH hP hS hD zp zpre zH zS zD zP zl hm
 go_enter Tryd.func71, Tryd.ntmps71
 go_wp2_with fail
 refine HM.out.mono ?_
 rintro e w1 ⟨rfl, E1⟩
 go_wp2
 go_ret
 exact ⟨rfl, E1⟩
set_option maxRecDepth 100000 in
set_option maxHeartbeats 2000000 in
theorem ck2_any (r : RuleD) (b : Nat) (w : World) (hc : CellR w b r) (hok : RuleOk w r) (hf : RuleFit r) :
  Calls Tryd.prog 73 #[.pointer (some ⟨b, 0, none⟩)] w fun e w' => e = .returned (.int .i64 (Sp.check r.P)) ∧ Ext w w' := by
 obtain ⟨path, ex, hv, H, pv, P, mi, ab, de, ti, pre, sv, S, dv, D, q0, q1, q2, q3, q4, q5, q6, rate⟩ := r
 obtain ⟨hH, hP, hS, hD⟩ := hok
 obtain ⟨zp, zpre, zH, zS, zD, zP, zl⟩ := hf
 simp only at *
 obtain ⟨_, a1, c1, rfl⟩ := hH.shape
 obtain ⟨_, a2, c2, rfl⟩ := hP.shape
 obtain ⟨_, a3, c3, rfl⟩ := hS.shape
 obtain ⟨_, a4, c4, rfl⟩ := hD.shape
 have d3 := hc.2 3 _ rfl
 have HM := hide (Sp.check_any P _ w hP zP zl)
 clear hc hH hP hS hD zp zpre zH zS zD zP zl
 go_enter Tryd.func73, Tryd.ntmps73
 go_wp2_with fail
 refine HM.out.mono ?_
 rintro e w1 ⟨rfl, E1⟩
 go_wp2
 go_ret
 exact ⟨rfl, E1⟩
set_option maxRecDepth 100000 in
set_option maxHeartbeats 4000000 in
theorem ck3_any (r : RuleD) (b : Nat) (w : World) (hc : CellR w b r) (hok : RuleOk w r) (hf : RuleFit r) (hm : MaxV w) :
  Calls Tryd.prog 76 #[.pointer (some ⟨b, 0, none⟩)] w fun e w' => e = .returned (.int .i64 (wrchk r.pre r.S r.D)) ∧ Ext w w' := by
 have hw := wrchk_any r w hok hf hm
 obtain ⟨path, ex, hv, H, pv, P, mi, ab, de, ti, pre, sv, S, dv, D, q0, q1, q2, q3, q4, q5, q6, rate⟩ := r
 obtain ⟨hH, hP, hS, hD⟩ := hok
 obtain ⟨zp, zpre, zH, zS, zD, zP, zl⟩ := hf
 simp only [RuleD.val] at *
 obtain ⟨_, a1, c1, rfl⟩ := hH.shape
 obtain ⟨_, a2, c2, rfl⟩ := hP.shape
 obtain ⟨_, a3, c3, rfl⟩ := hS.shape
 obtain ⟨_, a4, c4, rfl⟩ := hD.shape
 have hrg : w.rangeAt b 0 [.string path, .bool ex, .slice a1 H.length c1, .slice a2 P.length c2, .int .i64 mi, .int .i64 ab, .int .i64 de, .int .i64 ti, .string pre, .slice a3 S.length c3, .slice a4 D.length c4, .int .i64 q0, .int .i64 q1, .int .i64 q2, .int .i64 q3, .int .i64 q4, .int .i64 q5, .int .i64 q6, .int .i64 rate] := fun j v hv => by rw [Nat.zero_add]; exact hc.2 j v hv
 have HRG := hide hrg
 obtain ⟨dd, hd1, hd2⟩ := Tryd.ruleDesc
 have HM := hide hw
 clear hc hH hP hS hD zp zpre zH zS zD zP zl hm hw hrg
 go_enter Tryd.func76, Tryd.ntmps76
 go_upto_region 1 with (fail)
 refine wp_region_lit ?_
 refine wpList_load_mid rfl 43 (.tmp 0) rfl b 0 rfl [.string path, .bool ex, .slice a1 H.length c1, .slice a2 P.length c2, .int .i64 mi, .int .i64 ab, .int .i64 de, .int .i64 ti, .string pre, .slice a3 S.length c3, .slice a4 D.length c4, .int .i64 q0, .int .i64 q1, .int .i64 q2, .int .i64 q3, .int .i64 q4, .int .i64 q5, .int .i64 q6, .int .i64 rate] dd HRG.out hd1 hd2 Tryd.ruleSize ?_
 simp only [Act.put, List.setIfInBounds_toArray, List.set_cons_zero, List.set_cons_succ]
 go_wp2_with fail
 refine HM.out.mono ?_
 rintro e w1 ⟨rfl, E1⟩
 go_wp2
 go_ret
 exact ⟨rfl, E1⟩
end Go.Proofs.YtceaeiaoanhlnaaDoor

/- ref08.Check. -/
namespace Go.Proofs.YtceaeiaoanhlnaaDoor
open Go.ChangeShapes Go.WideShapes Go.ChangeAt Go.RowKit Go.Lib Go.Shelf
def injB (ab de ti : Int) : Bool := outB 0 10000 ab || outB 0 10000 de || outB 0 10000 ti
/-- how a rule is wrong -/
def rchk (r : RuleD) (rates : Int) : Int :=
 if mchk (bl r.path) r.H ≠ 0 then mchk (bl r.path) r.H else if Sp.check r.P ≠ 0 then Sp.check r.P else if outB 0 10 r.mi = true then 13 else
 if injB r.ab r.de r.ti = true then 16 else if wrchk r.pre r.S r.D ≠ 0 then wrchk r.pre r.S r.D else if polB r.q0 r.q1 r.q2 r.q3 r.q4 r.q5 r.q6 = false then 16 else
 if outB 0 rates r.rate = true then 15 else 0
end Go.Proofs.YtceaeiaoanhlnaaDoor

/- route.twin: the same rule, in new memory. -/
namespace Go.Proofs.YtceaeiaoanhlnaaDoor
open Go.ChangeShapes Go.WideShapes Go.ChangeAt Go.RowKit Go.Lib Go.Shelf
/-- the same but for where its lists lie -/
def Same (r r' : RuleD) : Prop := ∃ a b c d, r' = { r with hv := a, pv := b, sv := c, dv := d }
/-- the rule's lists are the call's own -/
def RuleOwn (B : Nat) (w : World) (r : RuleD) : Prop :=
 w.ownsRow B 82 2 r.hv r.H.length (r.H.flatMap encH) ∧ w.ownsRow B 45 2 r.pv r.P.length (r.P.flatMap encP) ∧
 w.ownsRow B 82 2 r.sv r.S.length (r.S.flatMap encH) ∧ w.ownsRow B 9 1 r.dv r.D.length (r.D.flatMap encS)
theorem encP_len' (p : Int × Int) : (encP p).length = 2 := rfl
theorem RuleOwn.ok {B : Nat} {w : World} {r : RuleD} (h : RuleOwn B w r) : RuleOk w r := ⟨Sl.of_own' encH_len h.1, Sl.of_own' encP_len' h.2.1, Sl.of_own' encH_len h.2.2.1, Sl.of_own' encS_len h.2.2.2⟩
/-- the blocks of a rule's lists -/
def RuleD.has (r : RuleD) (g : Nat) : Prop := r.hv.ownBlock = some g ∨ r.pv.ownBlock = some g ∨ r.sv.ownBlock = some g ∨ r.dv.ownBlock = some g
theorem RuleOwn.keeps {X : Nat → Prop} {B : Nat} {w w' : World} {r : RuleD} (h : RuleOwn B w r) (k : Keeps X w w') (hx : ∀ g, r.has g → ¬ X g) : RuleOwn B w' r :=
 ⟨owns_keeps h.1 k fun g hg => hx g (.inl hg), owns_keeps h.2.1 k fun g hg => hx g (.inr (.inl hg)), owns_keeps h.2.2.1 k fun g hg => hx g (.inr (.inr (.inl hg))), owns_keeps h.2.2.2 k fun g hg => hx g (.inr (.inr (.inr hg)))⟩
theorem RuleOwn.ext {B : Nat} {w w' : World} {r : RuleD} (h : RuleOwn B w r) (k : Ext w w') : RuleOwn B w' r := ⟨owns_ext h.1 k, owns_ext h.2.1 k, owns_ext h.2.2.1 k, owns_ext h.2.2.2 k⟩
theorem RuleOwn.ge {B : Nat} {w : World} {r : RuleD} (h : RuleOwn B w r) {g : Nat} (hg : r.has g) : B ≤ g ∧ g < w.heap.size := by
 rcases hg with hg | hg | hg | hg
 ·exact h.1.lt g hg
 ·exact h.2.1.lt g hg
 ·exact h.2.2.1.lt g hg
 ·exact h.2.2.2.lt g hg
theorem RuleOwn.type {B : Nat} {w : World} {r : RuleD} (h : RuleOwn B w r) {g : Nat} (hg : r.has g) {cs : Array Value} {e : TypeId} {f : Nat × Nat} (hh : w.heap[g]? = some (.cells cs e f)) : e = 82 ∨ e = 45 ∨ e = 9 := by
 rcases hg with hg | hg | hg | hg
 ·exact .inl (owns_type h.1 hg hh)
 ·exact .inr (.inl (owns_type h.2.1 hg hh))
 ·exact .inl (owns_type h.2.2.1 hg hh)
 ·exact .inr (.inr (owns_type h.2.2.2 hg hh))
theorem RuleOwn.mono {B B' : Nat} {w : World} {r : RuleD} (h : RuleOwn B w r) (hB : B' ≤ B) : RuleOwn B' w r := by
 have m : ∀ {e : TypeId} {size : Nat} {v : Value} {n : Nat} {xs : List Value}, w.ownsRow B e size v n xs → w.ownsRow B' e size v n xs := fun h => by
  obtain ⟨h1, h2⟩ := h
  refine ⟨h1, ?_⟩
  rcases h2 with h2 | ⟨g, cap, cur, hv, hg, r⟩
  ·exact .inl h2
  ·exact .inr ⟨g, cap, cur, hv, by omega, r⟩
 exact ⟨m h.1, m h.2.1, m h.2.2.1, m h.2.2.2⟩
/-- a rule's box -/
def BoxR (w : World) (b : Nat) (r : RuleD) : Prop := ∃ cs, w.heap[b]? = some (.cells cs 43 (0, 0)) ∧ cs.toList = encR r
theorem BoxR.cellR {w : World} {b : Nat} {r : RuleD} (h : BoxR w b r) : CellR w b r := by
 obtain ⟨cs, hb, hc⟩ := h
 refine ⟨(Array.getElem?_eq_some_iff.1 hb).1, fun j u hu => ?_⟩
 rw [← hc] at hu
 simp only [World.cell?, hb]
 simpa using hu
theorem BoxR.frozen {w : World} {b : Nat} {r : RuleD} (h : BoxR w b r) (o : Nat) : w.frozen? ⟨b, o, none⟩ = false := by
 obtain ⟨cs, hb, hc⟩ := h
 simp [World.frozen?, hb]
theorem BoxR.keep {w w' : World} {b : Nat} {r : RuleD} (h : BoxR w b r) (k : w'.heap[b]? = w.heap[b]?) : BoxR w' b r := by
 obtain ⟨cs, hb, hc⟩ := h
 exact ⟨cs, k.trans hb, hc⟩
theorem BoxR.lt {w : World} {b : Nat} {r : RuleD} (h : BoxR w b r) : b < w.heap.size := h.cellR.1
theorem BoxR.set {w : World} {b : Nat} {r r' : RuleD} (h : BoxR w b r) (j : Nat) (v : Value) (hr : encR r' = (encR r).set j v) : BoxR (w.setCell ⟨b, j, none⟩ v) b r' := by
 obtain ⟨cs, hb, hc⟩ := h
 obtain ⟨hlt, hk⟩ := Array.getElem?_eq_some_iff.1 hb
 refine ⟨cs.setIfInBounds j v, ?_, by rw [hr, ← hc]; simp⟩
 show (w.heap.modify b _)[b]? = _
 rw [Array.getElem?_eq_getElem (by rw [Array.size_modify]; exact hlt), Array.getElem_modify_self, hk]
 rfl
theorem results_cell_mid {P : Program} {fn : Func} {p : Tmp} {ty : TypeId} (h : fn.results = #[.cell p ty]) (tmps : Array Value) (w : World) (b o : Nat) (cs : List Value) (d : TypeDesc)
  (hp : tmps.getD p undef = .pointer (some ⟨b, o, none⟩)) (hc : w.rangeAt b o cs) (hu : P.underlying ty = some d) (hd : d.isRow = true) (hi : (P.info? ty).map (·.size) = some cs.length) :
  (results fn tmps).run P w = .ok (.agg cs.toArray) w := by
 have hp' : tmps[p]?.getD undef = .pointer (some ⟨b, o, none⟩) := by simpa using hp
 simp [results, h, hp', asAddr, run_loadVar_mid w b o ty cs d hc hu hd hi]
theorem keeps_setCells (b : Nat) : ∀ (vs : List Value) (o : Nat) (w : World), Keeps (fun g => g = b) w (w.setCells b o vs)
 | [], _, w => Keeps.refl _ w
 | v :: r, o, w => (Keeps.of_set (X := fun g => g = b) w b o v rfl).trans (keeps_setCells b r (o + 1) _)
theorem encH_one (h : HeadD) : ∀ u ∈ encH h, u.oneCell' = true := by
 intro u hu
 simp [encH] at hu
 rcases hu with rfl | rfl <;> rfl
theorem encP_one (h : Int × Int) : ∀ u ∈ encP h, u.oneCell' = true := by
 intro u hu
 simp [encP] at hu
 rcases hu with rfl | rfl <;> rfl
theorem encS_one (h : ByteArray) : ∀ u ∈ encS h, u.oneCell' = true := by
 intro u hu
 simp [encS] at hu
 subst hu
 rfl
theorem encI_one (h : Int) : ∀ u ∈ encI h, u.oneCell' = true := by
 intro u hu
 simp [encI] at hu
 subst hu
 rfl
theorem Tryd.infoH : (Tryd.prog.info? 82).map (fun i => (i.zero, i.size, i.bytes)) = some (some (.agg #[.string ByteArray.empty, .string ByteArray.empty]), 2, 32) := by kernel_rfl
theorem Tryd.infoP : (Tryd.prog.info? 45).map (fun i => (i.zero, i.size, i.bytes)) = some (some (.agg #[.int .i64 0, .int .i64 0]), 2, 16) := by kernel_rfl
set_option maxRecDepth 100000 in
set_option maxHeartbeats 8000000 in
theorem twin_any (r : RuleD) (w : World) (hok : RuleOk w r) (hl : r.H.length ≤ 1000000 ∧ r.P.length ≤ 1000000 ∧ r.S.length ≤ 1000000 ∧ r.D.length ≤ 1000000) :
  Calls Tryd.prog 28 #[r.val] w fun e w' => ∃ r', e = .returned r'.val ∧ Same r r' ∧ RuleOwn w.heap.size w' r' ∧ Ext w w' := by
 obtain ⟨ih, hih0, hih1, hih2, hih3⟩ := info_partsS Tryd.infoH
 obtain ⟨ip, hip0, hip1, hip2, hip3⟩ := info_partsS Tryd.infoP
 obtain ⟨is, his0, his1, his2, his3⟩ := info_partsS Tryd.infoS
 obtain ⟨path, ex, hv, H, pv, P, mi, ab, de, ti, pre, sv, S, dv, D, q0, q1, q2, q3, q4, q5, q6, rate⟩ := r
 obtain ⟨hH, hP, hS, hD⟩ := hok
 obtain ⟨l1, l2, l3, l4⟩ := hl
 simp only [RuleD.val] at *
 obtain ⟨_, a1, c1, rfl⟩ := hH.shape
 obtain ⟨_, a2, c2, rfl⟩ := hP.shape
 obtain ⟨_, a3, c3, rfl⟩ := hS.shape
 obtain ⟨_, a4, c4, rfl⟩ := hD.shape
 go_enter Tryd.func28, Tryd.ntmps28
 go_upto_region 1 with (fail)
 generalize hW : World.alloc (World.alloc w (.cells #[.string path, .bool ex, .slice a1 H.length c1, .slice a2 P.length c2, .int .i64 mi, .int .i64 ab, .int .i64 de, .int .i64 ti, .string pre, .slice a3 S.length c3, .slice a4 D.length c4, .int .i64 q0, .int .i64 q1, .int .i64 q2, .int .i64 q3, .int .i64 q4, .int .i64 q5, .int .i64 q6, .int .i64 rate] 43)) (.cells #[.string ⟨#[]⟩, .bool false, .slice none 0 0, .slice none 0 0, .int .i64 0, .int .i64 0, .int .i64 0, .int .i64 0, .string ⟨#[]⟩, .slice none 0 0, .slice none 0 0, .int .i64 0, .int .i64 0, .int .i64 0, .int .i64 0, .int .i64 0, .int .i64 0, .int .i64 0, .int .i64 0] 43) = W0
 have hb : BoxR W0 w.heap.size (⟨path, ex, .slice a1 H.length c1, H, .slice a2 P.length c2, P, mi, ab, de, ti, pre, .slice a3 S.length c3, S, .slice a4 D.length c4, D, q0, q1, q2, q3, q4, q5, q6, rate⟩ : RuleD) := by
  subst hW
  exact ⟨#[.string path, .bool ex, .slice a1 H.length c1, .slice a2 P.length c2, .int .i64 mi, .int .i64 ab, .int .i64 de, .int .i64 ti, .string pre, .slice a3 S.length c3, .slice a4 D.length c4, .int .i64 q0, .int .i64 q1, .int .i64 q2, .int .i64 q3, .int .i64 q4, .int .i64 q5, .int .i64 q6, .int .i64 rate], (Below.heap_alloc _ _ _ (by simp)).trans (heap_alloc_new w _), rfl⟩
 have hr : ∃ cs : Array Value, W0.heap[w.heap.size + 1]? = some (.cells cs 43 (0, 0)) ∧ cs.size = 19 := by
  subst hW
  refine ⟨#[.string ⟨#[]⟩, .bool false, .slice none 0 0, .slice none 0 0, .int .i64 0, .int .i64 0, .int .i64 0, .int .i64 0, .string ⟨#[]⟩, .slice none 0 0, .slice none 0 0, .int .i64 0, .int .i64 0, .int .i64 0, .int .i64 0, .int .i64 0, .int .i64 0, .int .i64 0, .int .i64 0], ?_, rfl⟩
  have := heap_alloc_new (World.alloc w (.cells #[.string path, .bool ex, .slice a1 H.length c1, .slice a2 P.length c2, .int .i64 mi, .int .i64 ab, .int .i64 de, .int .i64 ti, .string pre, .slice a3 S.length c3, .slice a4 D.length c4, .int .i64 q0, .int .i64 q1, .int .i64 q2, .int .i64 q3, .int .i64 q4, .int .i64 q5, .int .i64 q6, .int .i64 rate] 43)) (.cells #[.string ⟨#[]⟩, .bool false, .slice none 0 0, .slice none 0 0, .int .i64 0, .int .i64 0, .int .i64 0, .int .i64 0, .string ⟨#[]⟩, .slice none 0 0, .slice none 0 0, .int .i64 0, .int .i64 0, .int .i64 0, .int .i64 0, .int .i64 0, .int .i64 0, .int .i64 0, .int .i64 0] 43)
  simpa using this
 have hE0 : Ext w W0 := by
  subst hW
  exact ((Below.refl _ w).alloc (Nat.le_refl _) _).alloc (by simp) _
 clear hW
 have HH := hide hH
 have HP := hide hP
 have HS := hide hS
 have HD := hide hD
 clear hH hP hS hD
 refine wp_region_lit ?_
 have hc1 := hb.cellR.2 2 _ rfl
 refine wpList_plain rfl fun K hK => ?_
 go_simp
 refine hK _ _ ?_
 refine wpList_plain rfl fun K hK => ?_
 go_simp
 refine hK _ _ ?_
 refine wpList_plain rfl fun K hK => ?_
 go_simp
 refine hK _ _ ?_
 clear hc1
 refine wpList_append_sl (enc := encH) rfl _ _ _ rfl w.heap.size 82 ih _ 2 32 rfl hih0 hih1 hih2 hih3 rfl (by decide) encH_len (.slice none 0 0) 0 [] rfl (World.ownsRow_nil _ _ _ _) _ rfl H (HH.out.ext hE0) (fun x _ => encH_one x) (by unfold maxLen; omega) (by omega) hE0.size ?_
 intro a w1 hown1 hg1
 rw [Nat.zero_add, List.nil_append] at hown1
 obtain ⟨x1, y1, hv1⟩ := owns_shape hown1
 subst hv1
 have hx1 : Ext W0 w1 := (Keeps.of_grown (X := fun _ => False) hg1 (fun _ h => by cases h)).below (Nat.le_refl _) (fun _ h => h.elim)
 have hb1 := hb.keep (hx1.block _ hb.lt)
 have hc1 := hb1.cellR.2 2 _ rfl
 have hz1 := hb1.frozen 2
 refine wpList_plain rfl fun K hK => ?_
 go_simp
 refine hK _ _ ?_
 refine wpList_plain rfl fun K hK => ?_
 go_simp
 refine hK _ _ ?_
 refine wpList_plain rfl fun K hK => ?_
 go_simp
 refine hK _ _ ?_
 have hbs := hb1.set (r' := (⟨path, ex, (.slice x1 H.length y1), H, .slice a2 P.length c2, P, mi, ab, de, ti, pre, .slice a3 S.length c3, S, .slice a4 D.length c4, D, q0, q1, q2, q3, q4, q5, q6, rate⟩ : RuleD)) 2 (.slice x1 H.length y1) rfl
 have hks : Keeps (fun g => g = w.heap.size) w1 (w1.setCell ⟨w.heap.size, 2, none⟩ (.slice x1 H.length y1)) := Keeps.of_set _ _ _ _ rfl
 have hno : ∀ g, ((.slice x1 H.length y1) : Value).ownBlock = some g → ¬ g = w.heap.size := fun g hg e => by
  obtain ⟨cs, hcs, -⟩ := hb1
  subst e
  exact absurd (owns_type hown1 hg hcs) (by decide)
 have hownS := owns_keeps hown1 hks hno
 have hEn : Ext w (w1.setCell ⟨w.heap.size, 2, none⟩ (.slice x1 H.length y1)) := Keeps.ext (Ext.trans hE0 hx1) hks (fun k h => by omega)
 have hrs : ∃ cs : Array Value, (w1.setCell ⟨w.heap.size, 2, none⟩ (.slice x1 H.length y1)).heap[w.heap.size + 1]? = some (.cells cs 43 (0, 0)) ∧ cs.size = 19 := by
  obtain ⟨cs, h1, h2⟩ := hr
  exact ⟨cs, (hks.block _ (Nat.lt_of_lt_of_le (Array.getElem?_eq_some_iff.1 h1).1 hx1.size) (by omega)).trans ((hx1.block _ (Array.getElem?_eq_some_iff.1 h1).1).trans h1), h2⟩
 generalize (w1.setCell ⟨w.heap.size, 2, none⟩ (.slice x1 H.length y1)) = W1 at *
 clear hc1 hz1 hks hno  hb hr hb1 hx1 hg1 hown1 hE0 
 have hown1 := hownS
 clear hownS
 have hb := hbs
 clear hbs
 have hE1 := hEn
 clear hEn
 have hr := hrs
 clear hrs
 refine wpList_nil ?_
 go_upto_region 2 with (fail)
 refine wp_region_lit ?_
 have hc2 := hb.cellR.2 3 _ rfl
 refine wpList_plain rfl fun K hK => ?_
 go_simp
 refine hK _ _ ?_
 refine wpList_plain rfl fun K hK => ?_
 go_simp
 refine hK _ _ ?_
 clear hc2
 refine wpList_append_sl (enc := encP) rfl _ _ _ rfl w.heap.size 45 ip _ 2 16 rfl hip0 hip1 hip2 hip3 rfl (by decide) encP_len' (.slice none 0 0) 0 [] rfl (World.ownsRow_nil _ _ _ _) _ rfl P (HP.out.ext hE1) (fun x _ => encP_one x) (by unfold maxLen; omega) (by omega) hE1.size ?_
 intro b w2 hown2 hg2
 rw [Nat.zero_add, List.nil_append] at hown2
 obtain ⟨x2, y2, hv2⟩ := owns_shape hown2
 subst hv2
 have hx2 : Ext W1 w2 := (Keeps.of_grown (X := fun _ => False) hg2 (fun _ h => by cases h)).below (Nat.le_refl _) (fun _ h => h.elim)
 have hb2 := hb.keep (hx2.block _ hb.lt)
 have hc2 := hb2.cellR.2 3 _ rfl
 have hz2 := hb2.frozen 3
 refine wpList_plain rfl fun K hK => ?_
 go_simp
 refine hK _ _ ?_
 refine wpList_plain rfl fun K hK => ?_
 go_simp
 refine hK _ _ ?_
 have hbs := hb2.set (r' := (⟨path, ex, (.slice x1 H.length y1), H, (.slice x2 P.length y2), P, mi, ab, de, ti, pre, .slice a3 S.length c3, S, .slice a4 D.length c4, D, q0, q1, q2, q3, q4, q5, q6, rate⟩ : RuleD)) 3 (.slice x2 P.length y2) rfl
 have hks : Keeps (fun g => g = w.heap.size) w2 (w2.setCell ⟨w.heap.size, 3, none⟩ (.slice x2 P.length y2)) := Keeps.of_set _ _ _ _ rfl
 have hno : ∀ g, ((.slice x2 P.length y2) : Value).ownBlock = some g → ¬ g = w.heap.size := fun g hg e => by
  obtain ⟨cs, hcs, -⟩ := hb2
  subst e
  exact absurd (owns_type hown2 hg hcs) (by decide)
 have hownS := owns_keeps hown2 hks hno
 have hno1 : ∀ g, ((.slice x1 H.length y1) : Value).ownBlock = some g → ¬ g = w.heap.size := fun g hg e => by
  obtain ⟨cs, hcs, -⟩ := hb2
  subst e
  exact absurd (owns_type (owns_ext hown1 hx2) hg hcs) (by decide)
 have hown1S := owns_keeps (owns_ext hown1 hx2) hks hno1
 have hEn : Ext w (w2.setCell ⟨w.heap.size, 3, none⟩ (.slice x2 P.length y2)) := Keeps.ext (Ext.trans hE1 hx2) hks (fun k h => by omega)
 have hrs : ∃ cs : Array Value, (w2.setCell ⟨w.heap.size, 3, none⟩ (.slice x2 P.length y2)).heap[w.heap.size + 1]? = some (.cells cs 43 (0, 0)) ∧ cs.size = 19 := by
  obtain ⟨cs, h1, h2⟩ := hr
  exact ⟨cs, (hks.block _ (Nat.lt_of_lt_of_le (Array.getElem?_eq_some_iff.1 h1).1 hx2.size) (by omega)).trans ((hx2.block _ (Array.getElem?_eq_some_iff.1 h1).1).trans h1), h2⟩
 generalize (w2.setCell ⟨w.heap.size, 3, none⟩ (.slice x2 P.length y2)) = W2 at *
 clear hc2 hz2 hks hno hno1 hb hr hb2 hx2 hg2 hown2 hE1 hown1
 have hown2 := hownS
 clear hownS
 have hb := hbs
 clear hbs
 have hE2 := hEn
 clear hEn
 have hr := hrs
 clear hrs
 have hown1 := hown1S
 clear hown1S
 refine wpList_nil ?_
 go_upto_region 3 with (fail)
 refine wp_region_lit ?_
 have hc3 := hb.cellR.2 9 _ rfl
 refine wpList_plain rfl fun K hK => ?_
 go_simp
 refine hK _ _ ?_
 refine wpList_plain rfl fun K hK => ?_
 go_simp
 refine hK _ _ ?_
 clear hc3
 refine wpList_append_sl (enc := encH) rfl _ _ _ rfl w.heap.size 82 ih _ 2 32 rfl hih0 hih1 hih2 hih3 rfl (by decide) encH_len (.slice none 0 0) 0 [] rfl (World.ownsRow_nil _ _ _ _) _ rfl S (HS.out.ext hE2) (fun x _ => encH_one x) (by unfold maxLen; omega) (by omega) hE2.size ?_
 intro c w3 hown3 hg3
 rw [Nat.zero_add, List.nil_append] at hown3
 obtain ⟨x3, y3, hv3⟩ := owns_shape hown3
 subst hv3
 have hx3 : Ext W2 w3 := (Keeps.of_grown (X := fun _ => False) hg3 (fun _ h => by cases h)).below (Nat.le_refl _) (fun _ h => h.elim)
 have hb3 := hb.keep (hx3.block _ hb.lt)
 have hc3 := hb3.cellR.2 9 _ rfl
 have hz3 := hb3.frozen 9
 refine wpList_plain rfl fun K hK => ?_
 go_simp
 refine hK _ _ ?_
 refine wpList_plain rfl fun K hK => ?_
 go_simp
 refine hK _ _ ?_
 have hbs := hb3.set (r' := (⟨path, ex, (.slice x1 H.length y1), H, (.slice x2 P.length y2), P, mi, ab, de, ti, pre, (.slice x3 S.length y3), S, .slice a4 D.length c4, D, q0, q1, q2, q3, q4, q5, q6, rate⟩ : RuleD)) 9 (.slice x3 S.length y3) rfl
 have hks : Keeps (fun g => g = w.heap.size) w3 (w3.setCell ⟨w.heap.size, 9, none⟩ (.slice x3 S.length y3)) := Keeps.of_set _ _ _ _ rfl
 have hno : ∀ g, ((.slice x3 S.length y3) : Value).ownBlock = some g → ¬ g = w.heap.size := fun g hg e => by
  obtain ⟨cs, hcs, -⟩ := hb3
  subst e
  exact absurd (owns_type hown3 hg hcs) (by decide)
 have hownS := owns_keeps hown3 hks hno
 have hno1 : ∀ g, ((.slice x1 H.length y1) : Value).ownBlock = some g → ¬ g = w.heap.size := fun g hg e => by
  obtain ⟨cs, hcs, -⟩ := hb3
  subst e
  exact absurd (owns_type (owns_ext hown1 hx3) hg hcs) (by decide)
 have hown1S := owns_keeps (owns_ext hown1 hx3) hks hno1
 have hno2 : ∀ g, ((.slice x2 P.length y2) : Value).ownBlock = some g → ¬ g = w.heap.size := fun g hg e => by
  obtain ⟨cs, hcs, -⟩ := hb3
  subst e
  exact absurd (owns_type (owns_ext hown2 hx3) hg hcs) (by decide)
 have hown2S := owns_keeps (owns_ext hown2 hx3) hks hno2
 have hEn : Ext w (w3.setCell ⟨w.heap.size, 9, none⟩ (.slice x3 S.length y3)) := Keeps.ext (Ext.trans hE2 hx3) hks (fun k h => by omega)
 have hrs : ∃ cs : Array Value, (w3.setCell ⟨w.heap.size, 9, none⟩ (.slice x3 S.length y3)).heap[w.heap.size + 1]? = some (.cells cs 43 (0, 0)) ∧ cs.size = 19 := by
  obtain ⟨cs, h1, h2⟩ := hr
  exact ⟨cs, (hks.block _ (Nat.lt_of_lt_of_le (Array.getElem?_eq_some_iff.1 h1).1 hx3.size) (by omega)).trans ((hx3.block _ (Array.getElem?_eq_some_iff.1 h1).1).trans h1), h2⟩
 generalize (w3.setCell ⟨w.heap.size, 9, none⟩ (.slice x3 S.length y3)) = W3 at *
 clear hc3 hz3 hks hno hno1 hno2 hb hr hb3 hx3 hg3 hown3 hE2 hown1 hown2
 have hown3 := hownS
 clear hownS
 have hb := hbs
 clear hbs
 have hE3 := hEn
 clear hEn
 have hr := hrs
 clear hrs
 have hown1 := hown1S
 clear hown1S
 have hown2 := hown2S
 clear hown2S
 refine wpList_nil ?_
 go_upto_region 4 with (fail)
 refine wp_region_lit ?_
 have hc4 := hb.cellR.2 10 _ rfl
 refine wpList_plain rfl fun K hK => ?_
 go_simp
 refine hK _ _ ?_
 refine wpList_plain rfl fun K hK => ?_
 go_simp
 refine hK _ _ ?_
 clear hc4
 refine wpList_append_sl (enc := encS) rfl _ _ _ rfl w.heap.size 9 is _ 1 16 rfl his0 his1 his2 his3 rfl (by decide) encS_len (.slice none 0 0) 0 [] rfl (World.ownsRow_nil _ _ _ _) _ rfl D (HD.out.ext hE3) (fun x _ => encS_one x) (by unfold maxLen; omega) (by omega) hE3.size ?_
 intro d w4 hown4 hg4
 rw [Nat.zero_add, List.nil_append] at hown4
 obtain ⟨x4, y4, hv4⟩ := owns_shape hown4
 subst hv4
 have hx4 : Ext W3 w4 := (Keeps.of_grown (X := fun _ => False) hg4 (fun _ h => by cases h)).below (Nat.le_refl _) (fun _ h => h.elim)
 have hb4 := hb.keep (hx4.block _ hb.lt)
 have hc4 := hb4.cellR.2 10 _ rfl
 have hz4 := hb4.frozen 10
 refine wpList_plain rfl fun K hK => ?_
 go_simp
 refine hK _ _ ?_
 refine wpList_plain rfl fun K hK => ?_
 go_simp
 refine hK _ _ ?_
 have hbs := hb4.set (r' := (⟨path, ex, (.slice x1 H.length y1), H, (.slice x2 P.length y2), P, mi, ab, de, ti, pre, (.slice x3 S.length y3), S, (.slice x4 D.length y4), D, q0, q1, q2, q3, q4, q5, q6, rate⟩ : RuleD)) 10 (.slice x4 D.length y4) rfl
 have hks : Keeps (fun g => g = w.heap.size) w4 (w4.setCell ⟨w.heap.size, 10, none⟩ (.slice x4 D.length y4)) := Keeps.of_set _ _ _ _ rfl
 have hno : ∀ g, ((.slice x4 D.length y4) : Value).ownBlock = some g → ¬ g = w.heap.size := fun g hg e => by
  obtain ⟨cs, hcs, -⟩ := hb4
  subst e
  exact absurd (owns_type hown4 hg hcs) (by decide)
 have hownS := owns_keeps hown4 hks hno
 have hno1 : ∀ g, ((.slice x1 H.length y1) : Value).ownBlock = some g → ¬ g = w.heap.size := fun g hg e => by
  obtain ⟨cs, hcs, -⟩ := hb4
  subst e
  exact absurd (owns_type (owns_ext hown1 hx4) hg hcs) (by decide)
 have hown1S := owns_keeps (owns_ext hown1 hx4) hks hno1
 have hno2 : ∀ g, ((.slice x2 P.length y2) : Value).ownBlock = some g → ¬ g = w.heap.size := fun g hg e => by
  obtain ⟨cs, hcs, -⟩ := hb4
  subst e
  exact absurd (owns_type (owns_ext hown2 hx4) hg hcs) (by decide)
 have hown2S := owns_keeps (owns_ext hown2 hx4) hks hno2
 have hno3 : ∀ g, ((.slice x3 S.length y3) : Value).ownBlock = some g → ¬ g = w.heap.size := fun g hg e => by
  obtain ⟨cs, hcs, -⟩ := hb4
  subst e
  exact absurd (owns_type (owns_ext hown3 hx4) hg hcs) (by decide)
 have hown3S := owns_keeps (owns_ext hown3 hx4) hks hno3
 have hEn : Ext w (w4.setCell ⟨w.heap.size, 10, none⟩ (.slice x4 D.length y4)) := Keeps.ext (Ext.trans hE3 hx4) hks (fun k h => by omega)
 have hrs : ∃ cs : Array Value, (w4.setCell ⟨w.heap.size, 10, none⟩ (.slice x4 D.length y4)).heap[w.heap.size + 1]? = some (.cells cs 43 (0, 0)) ∧ cs.size = 19 := by
  obtain ⟨cs, h1, h2⟩ := hr
  exact ⟨cs, (hks.block _ (Nat.lt_of_lt_of_le (Array.getElem?_eq_some_iff.1 h1).1 hx4.size) (by omega)).trans ((hx4.block _ (Array.getElem?_eq_some_iff.1 h1).1).trans h1), h2⟩
 generalize (w4.setCell ⟨w.heap.size, 10, none⟩ (.slice x4 D.length y4)) = W4 at *
 clear hc4 hz4 hks hno hno1 hno2 hno3 hb hr hb4 hx4 hg4 hown4 hE3 hown1 hown2 hown3
 have hown4 := hownS
 clear hownS
 have hb := hbs
 clear hbs
 have hE4 := hEn
 clear hEn
 have hr := hrs
 clear hrs
 have hown1 := hown1S
 clear hown1S
 have hown2 := hown2S
 clear hown2S
 have hown3 := hown3S
 clear hown3S
 refine wpList_nil ?_
 go_upto_region 5 with (fail)
 refine wp_region_lit ?_
 obtain ⟨dd, hd1, hd2⟩ := Tryd.ruleDesc
 have hrg : W4.rangeAt w.heap.size 0 [.string path, .bool ex, (.slice x1 H.length y1), (.slice x2 P.length y2), .int .i64 mi, .int .i64 ab, .int .i64 de, .int .i64 ti, .string pre, (.slice x3 S.length y3), (.slice x4 D.length y4), .int .i64 q0, .int .i64 q1, .int .i64 q2, .int .i64 q3, .int .i64 q4, .int .i64 q5, .int .i64 q6, .int .i64 rate] := fun j v hv => by rw [Nat.zero_add]; exact hb.cellR.2 j v hv
 refine wpList_load_mid rfl 43 (.tmp 1) rfl w.heap.size 0 rfl [.string path, .bool ex, (.slice x1 H.length y1), (.slice x2 P.length y2), .int .i64 mi, .int .i64 ab, .int .i64 de, .int .i64 ti, .string pre, (.slice x3 S.length y3), (.slice x4 D.length y4), .int .i64 q0, .int .i64 q1, .int .i64 q2, .int .i64 q3, .int .i64 q4, .int .i64 q5, .int .i64 q6, .int .i64 rate] dd hrg hd1 hd2 Tryd.ruleSize ?_
 have hth : W4.there (w.heap.size + 1) 0 19 := fun j hj => by
  obtain ⟨cs, h1, h2⟩ := hr
  rw [Nat.zero_add]
  refine ⟨?_, by simp [World.frozen?, h1]⟩
  simp only [World.cell?, h1]
  simp [h2, hj]
 refine wpList_store_mid rfl 43 (.tmp 2) (.tmp 21) rfl (w.heap.size + 1) 0 (#[.string path, .bool ex, (.slice x1 H.length y1), (.slice x2 P.length y2), .int .i64 mi, .int .i64 ab, .int .i64 de, .int .i64 ti, .string pre, (.slice x3 S.length y3), (.slice x4 D.length y4), .int .i64 q0, .int .i64 q1, .int .i64 q2, .int .i64 q3, .int .i64 q4, .int .i64 q5, .int .i64 q6, .int .i64 rate]) rfl rfl hth Tryd.ruleSize (by simp [Value.oneCell']) ?_
 refine wpList_nil ?_
 have hrs := World.rangeAt_setCells_same W4 (w.heap.size + 1) 0 [.string path, .bool ex, (.slice x1 H.length y1), (.slice x2 P.length y2), .int .i64 mi, .int .i64 ab, .int .i64 de, .int .i64 ti, .string pre, (.slice x3 S.length y3), (.slice x4 D.length y4), .int .i64 q0, .int .i64 q1, .int .i64 q2, .int .i64 q3, .int .i64 q4, .int .i64 q5, .int .i64 q6, .int .i64 rate] hth
 have hk5 := keeps_setCells (w.heap.size + 1) [.string path, .bool ex, (.slice x1 H.length y1), (.slice x2 P.length y2), .int .i64 mi, .int .i64 ab, .int .i64 de, .int .i64 ti, .string pre, (.slice x3 S.length y3), (.slice x4 D.length y4), .int .i64 q0, .int .i64 q1, .int .i64 q2, .int .i64 q3, .int .i64 q4, .int .i64 q5, .int .i64 q6, .int .i64 rate] 0 W4
 generalize W4.setCells (w.heap.size + 1) 0 [.string path, .bool ex, (.slice x1 H.length y1), (.slice x2 P.length y2), .int .i64 mi, .int .i64 ab, .int .i64 de, .int .i64 ti, .string pre, (.slice x3 S.length y3), (.slice x4 D.length y4), .int .i64 q0, .int .i64 q1, .int .i64 q2, .int .i64 q3, .int .i64 q4, .int .i64 q5, .int .i64 q6, .int .i64 rate] = W5 at hrs hk5 ⊢
 obtain ⟨cs5, hr1, hr2⟩ := hr
 have hn1 : ∀ g, ((.slice x1 H.length y1) : Value).ownBlock = some g → ¬ g = w.heap.size + 1 := fun g hg e => by
  subst e
  exact absurd (owns_type hown1 hg hr1) (by decide)
 have hn2 : ∀ g, ((.slice x2 P.length y2) : Value).ownBlock = some g → ¬ g = w.heap.size + 1 := fun g hg e => by
  subst e
  exact absurd (owns_type hown2 hg hr1) (by decide)
 have hn3 : ∀ g, ((.slice x3 S.length y3) : Value).ownBlock = some g → ¬ g = w.heap.size + 1 := fun g hg e => by
  subst e
  exact absurd (owns_type hown3 hg hr1) (by decide)
 have hn4 : ∀ g, ((.slice x4 D.length y4) : Value).ownBlock = some g → ¬ g = w.heap.size + 1 := fun g hg e => by
  subst e
  exact absurd (owns_type hown4 hg hr1) (by decide)
 have hE5 : Ext w W5 := Keeps.ext hE4 hk5 (fun k h => by omega)
 go_wp2_with (fail)
 (try simp only [Exit.inBlock, Exit.then])
 refine bodyPost_ret (results_cell_mid rfl _ _ (w.heap.size + 1) 0 [.string path, .bool ex, (.slice x1 H.length y1), (.slice x2 P.length y2), .int .i64 mi, .int .i64 ab, .int .i64 de, .int .i64 ti, .string pre, (.slice x3 S.length y3), (.slice x4 D.length y4), .int .i64 q0, .int .i64 q1, .int .i64 q2, .int .i64 q3, .int .i64 q4, .int .i64 q5, .int .i64 q6, .int .i64 rate] dd rfl hrs hd1 hd2 Tryd.ruleSize) rfl ?_
 exact ⟨(⟨path, ex, (.slice x1 H.length y1), H, (.slice x2 P.length y2), P, mi, ab, de, ti, pre, (.slice x3 S.length y3), S, (.slice x4 D.length y4), D, q0, q1, q2, q3, q4, q5, q6, rate⟩ : RuleD), rfl, ⟨_, _, _, _, rfl⟩, ⟨owns_keeps hown1 hk5 hn1, owns_keeps hown2 hk5 hn2, owns_keeps hown3 hk5 hn3, owns_keeps hown4 hk5 hn4⟩, hE5⟩
end Go.Proofs.YtceaeiaoanhlnaaDoor

/- The row of rules by precedence, in plain Lean: a stable insertion sort of the numbers below n. -/
namespace Go.Proofs.YtceaeiaoanhlnaaDoor
open Go.Sort
/-- less, or alike and of a smaller number -/
def lexLt (lt : Int → Int → Bool) (x y : Int) : Bool := lt x y || (!lt y x && decide (x < y))
theorem lexLt_true {lt : Int → Int → Bool} {x y : Int} : lexLt lt x y = true ↔ lt x y = true ∨ (lt y x = false ∧ x < y) := by simp [lexLt]
theorem lexLt_false {lt : Int → Int → Bool} {x y : Int} : lexLt lt x y = false ↔ lt x y = false ∧ (lt y x = true ∨ ¬ x < y) := by
 unfold lexLt
 cases lt x y <;> cases lt y x <;> simp
theorem swo_ncases {lt : Int → Int → Bool} (h : SWO lt) {x y z : Int} (hxz : lt x z = true) : lt x y = true ∨ lt y z = true := by
 cases h1 : lt x y with
 | true => exact .inl rfl
 | false =>
  cases h2 : lt y z with
  | true => exact .inr rfl
  | false => rw [h.ntrans _ _ _ h1 h2] at hxz; cases hxz
theorem lex_swo {lt : Int → Int → Bool} (h : SWO lt) : SWO (lexLt lt) where
 irrefl x := lexLt_false.2 ⟨h.irrefl x, .inr (by omega)⟩
 trans x y z hxy hyz := by
  rw [lexLt_true] at *
  rcases hxy with h1 | ⟨h1, l1⟩ <;> rcases hyz with h2 | ⟨h2, l2⟩
  ·exact .inl (h.trans _ _ _ h1 h2)
  ·rcases swo_ncases h (y := z) h1 with h3 | h3
   ·exact .inl h3
   ·rw [h2] at h3; cases h3
  ·rcases swo_ncases h (y := x) h2 with h3 | h3
   ·rw [h1] at h3; cases h3
   ·exact .inl h3
  ·exact .inr ⟨h.ntrans _ _ _ h2 h1, by omega⟩
 ntrans x y z hxy hyz := by
  rw [lexLt_false] at *
  obtain ⟨h1, k1⟩ := hxy
  obtain ⟨h2, k2⟩ := hyz
  refine ⟨h.ntrans _ _ _ h1 h2, ?_⟩
  rcases k1 with k1 | k1
  ·rcases swo_ncases h (y := z) k1 with h3 | h3
   ·rw [h2] at h3; cases h3
   ·exact .inl h3
  ·rcases k2 with k2 | k2
   ·rcases swo_ncases h (y := x) k2 with h3 | h3
    ·exact .inl h3
    ·rw [h1] at h3; cases h3
   ·exact .inr (by omega)
theorem lex_total {lt : Int → Int → Bool} {x y : Int} (h1 : lexLt lt x y = false) (h2 : lexLt lt y x = false) : x = y := by
 rw [lexLt_false] at *
 obtain ⟨a1, b1⟩ := h1
 obtain ⟨a2, b2⟩ := h2
 rw [a2] at b1
 rw [a1] at b2
 simp at b1 b2
 omega
theorem insInner_keep (lt : Int → Int → Bool) (a : Nat) : ∀ (j : Nat) (d : Array Int), j < d.size → (insInner lt a j d).size = d.size ∧ (∀ q, j < q → (insInner lt a j d)[q]! = d[q]!) ∧ ∀ p, p ≤ j → ∃ r, r ≤ j ∧ (insInner lt a j d)[p]! = d[r]! := by
 intro j
 induction j with
 | zero => intro d _; exact ⟨rfl, fun _ _ => rfl, fun p hp => ⟨p, hp, rfl⟩⟩
 | succ j ih =>
  intro d hj
  unfold insInner
  split
  ·have hs : (swp d (j + 1) j).size = d.size := swp_size _ _ _
   obtain ⟨i1, i2, i3⟩ := ih (swp d (j + 1) j) (by omega)
   have g := swp_get d hj (show j < d.size by omega)
   refine ⟨by rw [i1, hs], ?_, ?_⟩
   ·intro q hq
    rw [i2 q (by omega), g]
    simp [show q ≠ j + 1 by omega, show q ≠ j by omega]
   ·intro p hp
    by_cases hpj : p ≤ j
    ·obtain ⟨r, hr, e⟩ := i3 p hpj
     by_cases hrj : r = j
     ·refine ⟨j + 1, by omega, ?_⟩
      rw [e, g, hrj]
      simp
     ·refine ⟨r, by omega, ?_⟩
      rw [e, g]
      simp [hrj, show r ≠ j + 1 by omega]
    ·obtain rfl : p = j + 1 := by omega
     refine ⟨j, by omega, ?_⟩
     rw [i2 (j + 1) (by omega), g]
     simp
  ·exact ⟨rfl, fun _ _ => rfl, fun p hp => ⟨p, hp, rfl⟩⟩
theorem insInner_lex (lt : Int → Int → Bool) (a : Nat) : ∀ (j : Nat) (d : Array Int), j < d.size → (∀ p, p < j → d[p]! < d[j]!) → insInner lt a j d = insInner (lexLt lt) a j d := by
 intro j
 induction j with
 | zero => intro d _ _; rfl
 | succ j ih =>
  intro d hj hd
  have g := swp_get d hj (show j < d.size by omega)
  have hc : lexLt lt d[j + 1]! d[j]! = lt d[j + 1]! d[j]! := by
   have := hd j (by omega)
   unfold lexLt
   have h2 : decide (d[j + 1]! < d[j]!) = false := by simp; omega
   rw [h2]
   simp
  unfold insInner
  rw [hc]
  split
  ·refine ih _ (by rw [swp_size]; omega) ?_
   intro p hp
   rw [g, g]
   have := hd p (by omega)
   simp [show p ≠ j by omega, show p ≠ j + 1 by omega]
   exact this
  ·rfl
theorem insOuter_lex (lt : Int → Int → Bool) (a b : Nat) : ∀ (n i : Nat) (d : Array Int), b - i = n → b ≤ d.size → (∀ p q, p < q → i ≤ q → q < b → d[p]! < d[q]!) → insOuter lt a b i d = insOuter (lexLt lt) a b i d := by
 intro n
 induction n with
 | zero =>
  intro i d hn _ _
  rw [insOuter, if_neg (by omega), insOuter, if_neg (by omega)]
 | succ n ih =>
  intro i d hn hb hd
  have hib : i < b := by omega
  have hin := insInner_lex lt a i d (by omega) (fun p hp => hd p i hp (Nat.le_refl _) hib)
  rw [insOuter, if_pos hib]
  conv => rhs; rw [insOuter, if_pos hib]
  rw [hin]
  obtain ⟨k1, k2, k3⟩ := insInner_keep (lexLt lt) a i d (by omega)
  refine ih (i + 1) _ (by omega) (by omega) ?_
  intro p q hpq hq hqb
  rw [k2 q (by omega)]
  by_cases hp : p ≤ i
  ·obtain ⟨r, hr, e⟩ := k3 p hp
   rw [e]
   exact hd r q (by omega) (by omega) hqb
  ·rw [k2 p (by omega)]
   exact hd p q hpq (by omega) hqb
/-- the numbers below n -/
def upTo (n : Nat) : List Int := (List.range n).map fun i : Nat => (i : Int)
theorem upTo_len (n : Nat) : (upTo n).length = n := by simp [upTo]
theorem upTo_mem {n : Nat} {x : Int} : x ∈ upTo n ↔ 0 ≤ x ∧ x < n := by
 unfold upTo
 rw [List.mem_map]
 constructor
 ·rintro ⟨i, hi, rfl⟩
  have := List.mem_range.1 hi
  omega
 ·rintro ⟨h1, h2⟩
  exact ⟨x.toNat, List.mem_range.2 (by omega), by omega⟩
theorem upTo_get (n i : Nat) (h : i < n) : (upTo n).toArray[i]! = (i : Int) := by
 simp [upTo, h]
theorem upTo_nodup (n : Nat) : (upTo n).Nodup := by
 unfold upTo
 rw [List.nodup_iff_pairwise_ne, List.pairwise_map]
 exact List.nodup_range.imp fun h e => h (by omega)
/-- the row: sorted by lt, alike ones as they stood -/
def rowL (lt : Int → Int → Bool) (n : Nat) : List Int := (insertionSort lt (upTo n).toArray 0 n).toList
theorem rowL_lex (lt : Int → Int → Bool) (n : Nat) : rowL lt n = (insertionSort (lexLt lt) (upTo n).toArray 0 n).toList := by
 unfold rowL insertionSort
 rw [insOuter_lex lt 0 n _ 1 _ rfl (by simp [upTo]) ?_]
 intro p q hpq _ hq
 rw [upTo_get n p (by omega), upTo_get n q hq]
 omega
theorem rowL_spec {lt : Int → Int → Bool} (h : SWO lt) (n : Nat) : (rowL lt n).Perm (upTo n) ∧ (rowL lt n).Pairwise (fun x y => lexLt lt x y = true) := by
 have hz : (upTo n).toArray.size = n := by simp [upTo]
 obtain ⟨⟨p1, -, p3⟩, hs⟩ := insertionSort_holds (lt := lexLt lt) (lex_swo h) (upTo n).toArray 0 n (Nat.zero_le _) (by omega)
 have hp : (rowL lt n).Perm (upTo n) := by
  rw [rowL_lex]
  rw [hz] at p1
  have ex : ∀ d : Array Int, d.size = n → d.extract 0 n = d := fun d hd => by subst hd; exact Array.extract_size
  have e1 := ex _ p1
  have e2 := ex _ hz
  rw [e1, e2] at p3
  simpa using p3
 refine ⟨hp, ?_⟩
 have hnd : (rowL lt n).Nodup := hp.nodup_iff.2 (upTo_nodup n)
 have hl : (rowL lt n).length = n := by rw [hp.length_eq, upTo_len]
 rw [List.pairwise_iff_getElem]
 intro i j hi hj hij
 cases hlt : lexLt lt (rowL lt n)[i] (rowL lt n)[j] with
 | true => rfl
 | false =>
  exfalso
  have h2 := hs i j (Nat.zero_le _) hij (by omega)
  have e : ∀ k (hk : k < (rowL lt n).length), (insertionSort (lexLt lt) (upTo n).toArray 0 n)[k]! = (rowL lt n)[k] := by
   intro k hk
   have hk2 : k < (insertionSort (lexLt lt) (upTo n).toArray 0 n).size := by rw [p1, hz]; omega
   rw [getElem!_pos _ k hk2]
   simp only [rowL_lex, Array.getElem_toList]
  rw [e i hi, e j hj] at h2
  have := lex_total hlt h2
  exact absurd this (fun e => by
   have := (List.nodup_iff_pairwise_ne.1 hnd)
   rw [List.pairwise_iff_getElem] at this
   exact this i j hi hj hij e)
/-- what the first one of a row that fits is -/
theorem find_row {lt : Int → Int → Bool} {L : List Int} {n : Nat} (hp : L.Perm (upTo n)) (hs : L.Pairwise (fun x y => lexLt lt x y = true)) (p : Int → Bool) :
  (∃ i, L.find? p = some i ∧ 0 ≤ i ∧ i < n ∧ p i = true ∧ ∀ j : Int, 0 ≤ j → j < n → p j = true → j ≠ i → lexLt lt i j = true) ∨ (L.find? p = none ∧ ∀ j : Int, 0 ≤ j → j < n → p j = false) := by
 cases hf : L.find? p with
 | none =>
  refine .inr ⟨rfl, fun j h0 hj => ?_⟩
  have := List.find?_eq_none.1 hf j (hp.mem_iff.2 (upTo_mem.2 ⟨h0, hj⟩))
  simpa using this
 | some i =>
  refine .inl ⟨i, rfl, ?_⟩
  have hm := List.mem_of_find?_eq_some hf
  have hr := upTo_mem.1 (hp.mem_iff.1 hm)
  refine ⟨hr.1, hr.2, List.find?_some hf, ?_⟩
  intro j h0 hj hpj hne
  have hjm := hp.mem_iff.2 (upTo_mem.2 ⟨h0, hj⟩)
  obtain ⟨-, us, vs, rfl, has⟩ := List.find?_eq_some_iff_append.1 hf
  rw [List.pairwise_append] at hs
  rcases List.mem_append.1 hjm with h | h
  ·have := has j h
   rw [hpj] at this
   simp at this
  ·rcases List.mem_cons.1 h with h | h
   ·exact absurd h hne
   ·exact (List.pairwise_cons.1 hs.2.1).1 j h
abbrev Key := Int × Int × Int
theorem cmp3_neg (a b : Key) : cmp3 a b < 0 ↔ b.1 < a.1 ∨ (a.1 = b.1 ∧ (b.2.1 < a.2.1 ∨ (a.2.1 = b.2.1 ∧ b.2.2 < a.2.2))) := by
 unfold cmp3
 split
 ·omega
 split
 ·omega
 split
 ·omega
 split
 ·omega
 split
 ·omega
 split <;> omega
/-- how two rules stand, by their numbers -/
def cfK (ks : List Key) (a b : Int) : Int := cmp3 (ks.getD a.toNat (0, 0, 0)) (ks.getD b.toNat (0, 0, 0))
theorem cfK_swo (ks : List Key) : SWO (Go.Proofs.ltOf (cfK ks)) where
 irrefl x := by
  unfold Go.Proofs.ltOf cfK
  rw [decide_eq_false_iff_not, cmp3_neg]
  omega
 trans x y z := by
  unfold Go.Proofs.ltOf cfK
  rw [decide_eq_true_iff, decide_eq_true_iff, decide_eq_true_iff, cmp3_neg, cmp3_neg, cmp3_neg]
  omega
 ntrans x y z := by
  unfold Go.Proofs.ltOf cfK
  rw [decide_eq_false_iff_not, decide_eq_false_iff_not, decide_eq_false_iff_not, cmp3_neg, cmp3_neg, cmp3_neg]
  omega
end Go.Proofs.YtceaeiaoanhlnaaDoor

/- route.New: the table as it is being made. -/
namespace Go.Proofs.YtceaeiaoanhlnaaDoor
open Go.ChangeShapes Go.WideShapes Go.ChangeAt Go.RowKit Go.Lib Go.Shelf
abbrev Rules := Sl encR 19
/-- what a rule says, wherever its lists lie -/
def RuleD.core (r : RuleD) : RuleD := { r with hv := .slice none 0 0, pv := .slice none 0 0, sv := .slice none 0 0, dv := .slice none 0 0 }
theorem Same.core {r r' : RuleD} (h : Same r r') : r'.core = r.core := by
 obtain ⟨a, b, c, d, rfl⟩ := h
 rfl
/-- a table's block, its rules and its row; all in blocks from B on -/
def TabAt (B : Nat) (w : World) (b : Nat) (Rs : List RuleD) (I : List Int) : Prop :=
 B ≤ b ∧ (∃ vr vi, w.heap[b]? = some (.cells #[vr, vi] 78 (0, 0)) ∧ w.ownsRow B 43 19 vr Rs.length (Rs.flatMap encR) ∧ w.ownsRow B 3 1 vi I.length (I.flatMap encI)) ∧
 ∀ r ∈ Rs, RuleOwn B w r
theorem TabAt.ext {B b : Nat} {w w' : World} {Rs : List RuleD} {I : List Int} (h : TabAt B w b Rs I) (e : Ext w w') : TabAt B w' b Rs I := by
 obtain ⟨h1, ⟨vr, vi, h2, h3, h4⟩, h5⟩ := h
 exact ⟨h1, ⟨vr, vi, (e.block b (Array.getElem?_eq_some_iff.1 h2).1).trans h2, owns_ext h3 e, owns_ext h4 e⟩, fun r hr => (h5 r hr).ext e⟩
def nerr (R : List RuleD) (rates : Int) : Int := if 20 < R.length then 2 else ((R.map (rchk · rates)).find? (· != 0)).getD 0
theorem encR_one (r : RuleD) {B : Nat} {w : World} (h : RuleOwn B w r) : ∀ u ∈ encR r, u.oneCell' = true := by
 obtain ⟨path, ex, hv, H, pv, P, mi, ab, de, ti, pre, sv, S, dv, D, q0, q1, q2, q3, q4, q5, q6, rate⟩ := r
 obtain ⟨a, c, h1⟩ := owns_shape h.1
 obtain ⟨a2, c2, h2⟩ := owns_shape h.2.1
 obtain ⟨a3, c3, h3⟩ := owns_shape h.2.2.1
 obtain ⟨a4, c4, h4⟩ := owns_shape h.2.2.2
 simp only at h1 h2 h3 h4
 subst h1 h2 h3 h4
 intro u hu
 simp [encR] at hu
 rcases hu with rfl | rfl | rfl | rfl | rfl | rfl | rfl | rfl | rfl | rfl | rfl | rfl | rfl | rfl | rfl | rfl | rfl | rfl | rfl <;> rfl
theorem encR_one' (r : RuleD) {w : World} (h : RuleOk w r) : ∀ u ∈ encR r, u.oneCell' = true := by
 obtain ⟨path, ex, hv, H, pv, P, mi, ab, de, ti, pre, sv, S, dv, D, q0, q1, q2, q3, q4, q5, q6, rate⟩ := r
 obtain ⟨-, a, c, h1⟩ := h.1.shape
 obtain ⟨-, a2, c2, h2⟩ := h.2.1.shape
 obtain ⟨-, a3, c3, h3⟩ := h.2.2.1.shape
 obtain ⟨-, a4, c4, h4⟩ := h.2.2.2.shape
 simp only at h1 h2 h3 h4
 subst h1 h2 h3 h4
 intro u hu
 simp [encR] at hu
 rcases hu with rfl | rfl | rfl | rfl | rfl | rfl | rfl | rfl | rfl | rfl | rfl | rfl | rfl | rfl | rfl | rfl | rfl | rfl | rfl <;> rfl
theorem rules_at {w : World} {a : Option Addr} {n cap : Nat} {xs : List RuleD} (h : Rules w (.slice a n cap) xs) (i : Nat) (hi : i < xs.length) :
  ∃ b off, a = some ⟨b, off, none⟩ ∧ b < w.heap.size ∧ ∀ j u, (encR xs[i])[j]? = some u → w.cell? ⟨b, off + i * 19 + j, none⟩ = some u := by
 obtain ⟨_, a', cap', hv, _, hc⟩ := h
 cases hv
 exact hc i xs[i] (List.getElem?_eq_getElem hi)
theorem Tryd.infoR : (Tryd.prog.info? 43).map (fun i => (i.size, i.bytes, i.zero.map fun z => z.cells.size)) = some (19, 232, some 19) := by kernel_rfl
theorem info_partsR : ∃ i z, Tryd.prog.info? 43 = some i ∧ i.zero = some z ∧ i.size = 19 ∧ i.bytes = 232 ∧ z.cells.size = 19 := by
 have h := Tryd.infoR
 revert h
 cases Tryd.prog.info? 43 with
 | none => intro h; cases h
 | some i =>
  intro h
  simp only [Option.map_some, Option.some.injEq, Prod.mk.injEq] at h
  obtain ⟨h1, h2, h3⟩ := h
  cases hz : i.zero with
  | none => rw [hz] at h3; cases h3
  | some z =>
   rw [hz] at h3
   exact ⟨i, z, rfl, hz, h1, h2, by simpa using h3⟩
theorem rules_new1 (w : World) (r : RuleD) (T : TypeId) : Rules (w.alloc (.cells (encR r).toArray T)) (.slice (some ⟨w.heap.size, 0, none⟩) 1 1) [r] := by
 have h := World.ownsRow_lit (base := 0) (e := T) (size := 19) w (encR r).toArray 1 (Nat.zero_le _) (by unfold maxLen; omega) rfl
 refine Sl.of_own' encR_len (base := 0) (e := T) ?_
 have e : ([r] : List RuleD).flatMap encR = (encR r).toArray.toList := by simp
 rw [e]
 exact h
theorem ints_new1 (w : World) (z : Int) (T : TypeId) : Ints (w.alloc (.cells #[.int .i64 z] T)) (.slice (some ⟨w.heap.size, 0, none⟩) 1 1) [z] := by
 have h := World.ownsRow_lit (base := 0) (e := T) (size := 1) w #[.int .i64 z] 1 (Nat.zero_le _) (by unfold maxLen; omega) rfl
 exact Sl.of_own' (enc := encI) (xs := [z]) (fun _ => rfl) (base := 0) (e := T) h
end Go.Proofs.YtceaeiaoanhlnaaDoor
namespace Go.Proofs.YtceaeiaoanhlnaaDoor
open Go.ChangeShapes Go.WideShapes Go.ChangeAt Go.RowKit Go.Lib Go.Shelf Go.Sort
/-- a row of ints at the head of a block -/
def RowI (w : World) (blk cap : Nat) (d : Array Int) : Prop := ∃ cs, w.heap[blk]? = some (.cells cs 3 (0, 0)) ∧ cs.size = cap ∧ d.size ≤ cap ∧ ∀ i, i < d.size → cs[i]? = some (.int .i64 d[i]!)
theorem RowI.cell {w : World} {blk cap : Nat} {d : Array Int} (h : RowI w blk cap d) (i : Nat) (hi : i < d.size) : w.cell? ⟨blk, i, none⟩ = some (.int .i64 d[i]!) := by
 obtain ⟨cs, h1, h2, h3, h4⟩ := h
 simp only [World.cell?, h1]
 exact h4 i hi
theorem RowI.frozen {w : World} {blk cap : Nat} {d : Array Int} (h : RowI w blk cap d) (o : Nat) : w.frozen? ⟨blk, o, none⟩ = false := by
 obtain ⟨cs, h1, h2, h3, h4⟩ := h
 simp [World.frozen?, h1]
theorem RowI.lt {w : World} {blk cap : Nat} {d : Array Int} (h : RowI w blk cap d) : blk < w.heap.size := by
 obtain ⟨cs, h1, _⟩ := h
 exact (Array.getElem?_eq_some_iff.1 h1).1
theorem RowI.ext {w w' : World} {blk cap : Nat} {d : Array Int} (h : RowI w blk cap d) (e : Ext w w') : RowI w' blk cap d := by
 have hl := h.lt
 obtain ⟨cs, h1, h2⟩ := h
 exact ⟨cs, (e.block blk hl).trans h1, h2⟩
theorem RowI.set {w : World} {blk cap : Nat} {d : Array Int} (h : RowI w blk cap d) (i : Nat) (z : Int) : RowI (w.setCell ⟨blk, i, none⟩ (.int .i64 z)) blk cap (d.setIfInBounds i z) := by
 obtain ⟨cs, hb, h2, h3, h4⟩ := h
 obtain ⟨hlt, hk⟩ := Array.getElem?_eq_some_iff.1 hb
 refine ⟨cs.setIfInBounds i (.int .i64 z), ?_, by simp [h2], by simpa using h3, ?_⟩
 ·show (w.heap.modify blk _)[blk]? = _
  rw [Array.getElem?_eq_getElem (by rw [Array.size_modify]; exact hlt), Array.getElem_modify_self, hk]
  rfl
 ·intro j hj
  have hj' : j < d.size := by simpa using hj
  rw [Array.getElem?_setIfInBounds]
  by_cases hij : i = j
  ·subst hij
   rw [if_pos rfl, if_pos (by omega), getElem!_pos _ i (by simpa using hj')]
   simp
  ·rw [if_neg hij, h4 j hj', getElem!_pos d j hj', getElem!_pos (d.setIfInBounds i z) j (by simpa using hj'), Array.getElem_setIfInBounds_ne _ hij]
theorem RowI.swap {w : World} {blk cap : Nat} {d : Array Int} (h : RowI w blk cap d) (i j : Nat) : RowI ((w.setCell ⟨blk, i, none⟩ (.int .i64 d[j]!)).setCell ⟨blk, j, none⟩ (.int .i64 d[i]!)) blk cap (swp d i j) := (h.set i _).set j _
/-- a comparison that tells cf of numbers below N, whatever has become of the row and whatever blocks have come -/
def CmpOk (w0 : World) (blk N : Nat) (fv : Value) (cf : Int → Int → Int) : Prop := ∃ g cb, fv = .func (.func g) #[] cb ∧ (∀ args w, (callFunc g args).run Tryd.prog w = .ok (.enter g args) w) ∧ ∀ w', Keeps (fun b => b = blk) w0 w' → ∀ x y : Int, 0 ≤ x → x < N → 0 ≤ y → y < N →
 Calls Tryd.prog g (#[.int .i64 x, .int .i64 y] ++ cb) w' fun e w'' => e = .returned (.int .i64 (cf x y)) ∧ Ext w' w''
def InR (N : Nat) (d : Array Int) : Prop := ∀ i, i < d.size → 0 ≤ d[i]! ∧ d[i]! < N
theorem InR.swp {N : Nat} {d : Array Int} (h : InR N d) (i j : Nat) (hi : i < d.size) (hj : j < d.size) : InR N (swp d i j) := by
 intro k hk
 rw [swp_size] at hk
 rw [swp_get d hi hj k]
 split
 ·exact h _ hi
 ·split
  ·exact h _ hj
  ·exact h k hk
/-- the phases of a comparison -/
def PhC (W : World) (z : Int) : List Value → World → Prop
 | [], w' => Ext W w'
 | [v], w' => Ext W w' ∧ v = .int .i64 z
 | _, _ => False
/-- the phases of an exchange -/
def PhX (W : World) (blk i j : Nat) (x y : Int) : List Value → World → Prop
 | [], w' => Ext W w'
 | [_], w' => ∃ w1, Ext W w1 ∧ w' = w1.setCell ⟨blk, i, none⟩ (.int .i64 y)
 | [_, _], w' => ∃ w1, Ext W w1 ∧ w' = (w1.setCell ⟨blk, i, none⟩ (.int .i64 y)).setCell ⟨blk, j, none⟩ (.int .i64 x)
 | _, _ => False
theorem frame53 (x : Nat → Value) : frameOf 53 x = #[x 0, x 1, x 2, x 3, x 4, x 5, x 6, x 7, x 8, x 9, x 10, x 11, x 12, x 13, x 14, x 15, x 16, x 17, x 18, x 19, x 20, x 21, x 22, x 23, x 24, x 25, x 26, x 27, x 28, x 29, x 30, x 31, x 32, x 33, x 34, x 35, x 36, x 37, x 38, x 39, x 40, x 41, x 42, x 43, x 44, x 45, x 46, x 47, x 48, x 49, x 50, x 51, x 52] := rfl
set_option maxRecDepth 100000 in
set_option maxHeartbeats 16000000 in
theorem isort_any (a b N blk cap : Nat) (d : Array Int) (fv : Value) (cf : Int → Int → Int) (w0 w : World) (hN : InR N d) (hC : CmpOk w0 blk N fv cf) (hR : RowI w blk cap d) (hK0 : Keeps (fun b => b = blk) w0 w) (hab : a ≤ b) (hb : b ≤ d.size) (hsz : d.size ≤ 1000) :
  Calls Tryd.prog 102 #[.slice (some ⟨blk, 0, none⟩) d.size cap, .int .i64 a, .int .i64 b, fv] w fun e w' => e = .returned (.tuple #[]) ∧ RowI w' blk cap (insertionSort (ltOf cf) d a b) ∧ Keeps (fun b => b = blk) w w' := by
 obtain ⟨g, cb, rfl, heg, hcall⟩ := hC
 have HCALL := hide hcall
 have HK0 := hide hK0
 have HR0 := hide hR
 have HN := hide hN
 have H63 := hide hsz
 clear hcall hK0 hR hN
 go_enter Tryd.func102, Tryd.ntmps102
 go_wp2_with fail
 go_loopw [8] (fun vi wr => ∃ (i : Nat) (dk : Array Int), vi = .int .i64 i ∧ a < i ∧ i ≤ b + 1 ∧ dk.size = d.size ∧ InR N dk ∧ RowI wr blk cap dk ∧ Keeps (fun b => b = blk) w wr ∧ Hid (insOuter (ltOf cf) a b i dk = insOuter (ltOf cf) a b (a + 1) d)) (fun i _ => b + 1 - (intOf i).toNat)
 case atStart => exact ⟨a + 1, d, by go_num, by omega, by omega, rfl, HN.out, HR0.out, Keeps.refl _ _, rfl⟩
 case round =>
  obtain ⟨i, dk, rfl, hai, hib, hsk, hir, hri, hki, HO⟩ := hrel
  have HIR0 := hide hir
  have HRI0 := hide hri
  have HKI0 := hide hki
  clear hir hri hki
  obtain ⟨wo, rfl⟩ : ∃ wo, wo = wr := ⟨_, rfl⟩
  by_cases hlt : i < b
  ·have hltz : (i : Int) < (b : Int) := by omega
   go_wp2_with fail
   go_loopw [9] (fun vj wr => ∃ (j : Nat) (dj : Array Int), vj = .int .i64 j ∧ a ≤ j ∧ j ≤ i ∧ dj.size = d.size ∧ InR N dj ∧ RowI wr blk cap dj ∧ Keeps (fun b => b = blk) w wr ∧ Hid (insInner (ltOf cf) a j dj = insInner (ltOf cf) a i dk)) (fun j _ => (intOf j).toNat)
   case atStart => exact ⟨i, dk, rfl, by omega, Nat.le_refl _, hsk, HIR0.out, HRI0.out, HKI0.out, rfl⟩
   case round =>
    obtain ⟨j, dj, rfl, haj, hji, hsj, hir, hri, hki, HI⟩ := hrel
    have HIR := hide hir
    have HRI := hide hri
    have HKI := hide hki
    clear hir hri hki
    have out : (j ≤ a ∨ (ltOf cf) dj[j]! dj[j - 1]! = false) → Hid (insOuter (ltOf cf) a b (i + 1) dj = insOuter (ltOf cf) a b (a + 1) d) := fun hs => by
     show _ = _
     rw [← HO.out, insOuter_go _ _ _ _ _ hlt, ← HI.out, insInner_stop _ _ _ _ hs]
    have OUT := hide out
    clear out
    by_cases hja : a < j
    ·obtain ⟨jp, rfl⟩ : ∃ q, j = q + 1 := ⟨j - 1, by omega⟩
     have hjaz : (a : Int) < (jp : Int) + 1 := by omega
     have hjz : ((jp : Int) + 1) ≤ 1000 := by omega
     have hjb : ((jp : Int) + 1) < d.size := by omega
     have hjb0 : (0 : Int) ≤ (jp : Int) := by omega
     have hjb1 : (jp : Int) < d.size := by omega
     have hjw : IntKind.i64.wrap (jp : Int) = (jp : Int) := IntWalk.i64_in _ (by omega)
     obtain ⟨x, hx⟩ : ∃ x, dj[jp + 1]! = x := ⟨_, rfl⟩
     obtain ⟨y, hy⟩ : ∃ y, dj[jp]! = y := ⟨_, rfl⟩
     have HX0 := hide hx
     have HY0 := hide hy
     clear hx hy
     have hcx : ∀ vs w' z, vs.length ≤ 0 → PhC wr z vs w' → w'.cell? ⟨blk, jp + 1, none⟩ = some (.int .i64 x) := fun vs w' z hn h => by
      rcases vs with _ | ⟨u, vs⟩
      ·rw [← HX0.out]; exact (HRI.out.ext h).cell (jp + 1) (by omega)
      ·simp at hn
     have hcy : ∀ vs w' z, vs.length ≤ 0 → PhC wr z vs w' → w'.cell? ⟨blk, jp, none⟩ = some (.int .i64 y) := fun vs w' z hn h => by
      rcases vs with _ | ⟨u, vs⟩
      ·rw [← HY0.out]; exact (HRI.out.ext h).cell jp (by omega)
      ·simp at hn
     obtain ⟨z, hz⟩ : ∃ z, cf x y = z := ⟨_, rfl⟩
     have hcl : ∀ w', Ext wr w' → Calls Tryd.prog g (#[.int .i64 x, .int .i64 y] ++ cb) w' fun e w'' => e = .returned (.int .i64 z) ∧ Ext w' w'' := fun w' h => by
      have h1 := HIR.out (jp + 1) (by omega)
      have h2 := HIR.out jp (by omega)
      rw [HX0.out] at h1
      rw [HY0.out] at h2
      rw [← hz]
      exact HCALL.out w' ((HK0.out.trans HKI.out).trans (Keeps.of_ext h)) x y h1.1 h1.2 h2.1 h2.2
     have HCX := hide (fun vs w' => hcx vs w' z)
     have HCY := hide (fun vs w' => hcy vs w' z)
     have HCL := hide hcl
     clear hcx hcy hcl
     by_cases hzn : z < 0
     ·have HLT := hide (show ltOf cf dj[jp + 1]! dj[jp]! = true by unfold ltOf; rw [HX0.out, HY0.out, hz]; exact decide_eq_true hzn)
      clear hz
      go_upto_region 4 with (fail)
      refine wp_region_ph 53 [14] (PhC wr z) (fun t v => match t with | 0 => v = .slice (some ⟨blk, 0, none⟩) d.size cap | 1 => v = .int .i64 a | 2 => v = .int .i64 b | 3 => v = .func (.func g) #[] cb | 4 => v = undef | 5 => v = undef | 6 => v = undef | 7 => v = undef | 8 => v = .int .i64 i | 9 => v = .int .i64 (jp + 1) | 10 => v = .int .i64 a | 11 => v = .int .i64 (a + 1) | 12 => v = .int .i64 i | 13 => v = .int .i64 b | 14 => v = .bool true | 15 => v = u15 | 16 => v = u16 | 17 => v = .int .i64 i | 18 => v = .int .i64 (jp + 1) | 19 => v = .int .i64 a | 20 => v = .bool true | 21 => v = .bool true | 22 => v = .func (.func g) #[] cb | 23 => v = .slice (some ⟨blk, 0, none⟩) d.size cap | 24 => v = .int .i64 (jp + 1) | 25 => v = .pointer (some ⟨blk, jp + 1, none⟩) | 26 => v = .int .i64 x | 27 => v = .slice (some ⟨blk, 0, none⟩) d.size cap | 28 => v = .int .i64 (jp + 1) | 29 => v = .int .i64 jp | 30 => v = .pointer (some ⟨blk, jp, none⟩) | 31 => v = .int .i64 y | 33 => v = .bool true | 34 => v = .bool true | _ => True) (by kernel_rfl) rfl (by kernel_rfl) (by kernel_rfl) (by kernel_rfl) ?_ ?_ ?_ ?_ ?_
      ·exact (Below.refl _ _).drew
      ·intro t ht hno
       have hi : t = 0 ∨ t = 1 ∨ t = 2 ∨ t = 3 ∨ t = 4 ∨ t = 5 ∨ t = 6 ∨ t = 7 ∨ t = 8 ∨ t = 9 ∨ t = 10 ∨ t = 11 ∨ t = 12 ∨ t = 13 ∨ t = 14 ∨ t = 15 ∨ t = 16 ∨ t = 17 ∨ t = 18 ∨ t = 19 ∨ t = 20 ∨ t = 21 ∨ t = 22 ∨ t = 23 ∨ t = 24 ∨ t = 25 ∨ t = 26 ∨ t = 27 ∨ t = 28 ∨ t = 29 ∨ t = 30 ∨ t = 31 ∨ t = 32 ∨ t = 33 ∨ t = 34 ∨ t = 35 ∨ t = 36 ∨ t = 37 ∨ t = 38 ∨ t = 39 ∨ t = 40 ∨ t = 41 ∨ t = 42 ∨ t = 43 ∨ t = 44 ∨ t = 45 ∨ t = 46 ∨ t = 47 ∨ t = 48 ∨ t = 49 ∨ t = 50 ∨ t = 51 ∨ t = 52 := by omega
       rcases hi with rfl | rfl | rfl | rfl | rfl | rfl | rfl | rfl | rfl | rfl | rfl | rfl | rfl | rfl | rfl | rfl | rfl | rfl | rfl | rfl | rfl | rfl | rfl | rfl | rfl | rfl | rfl | rfl | rfl | rfl | rfl | rfl | rfl | rfl | rfl | rfl | rfl | rfl | rfl | rfl | rfl | rfl | rfl | rfl | rfl | rfl | rfl | rfl | rfl | rfl | rfl | rfl | rfl
       all_goals first | exact rfl | exact True.intro | exact absurd (hno.symm.trans (by kernel_rfl) : true = false) (by decide)
      ·intro i o ho hmi vs X w' hpk hph hX hI K hK
       have hin : i < 17 := (Array.getElem?_eq_some_iff.1 ho).1
       have hi : i = 0 ∨ i = 1 ∨ i = 2 ∨ i = 3 ∨ i = 4 ∨ i = 5 ∨ i = 6 ∨ i = 7 ∨ i = 8 ∨ i = 9 ∨ i = 10 ∨ i = 11 ∨ i = 12 ∨ i = 13 ∨ i = 14 ∨ i = 15 ∨ i = 16 := by omega
       rcases hi with rfl | rfl | rfl | rfl | rfl | rfl | rfl | rfl | rfl | rfl | rfl | rfl | rfl | rfl | rfl | rfl | rfl
       ·obtain rfl := Option.some.inj ho
        have e9 : X 9 = _ := hI 9 (by kernel_rfl)
        unfold wpOp
        simp only [ho]
        rw [if_pos (by rfl)]
        left
        rw [frame53]
        go_simp
        refine metK (hK.out (.int .i64 (jp + 1)) (fun d hd => by cases hd; exact rfl)) ?_
        simp [frame53, Act.put, *]
       ·obtain rfl := Option.some.inj ho
        have e1 : X 1 = _ := hI 1 (by kernel_rfl)
        unfold wpOp
        simp only [ho]
        rw [if_pos (by rfl)]
        left
        rw [frame53]
        go_simp
        refine metK (hK.out (.int .i64 a) (fun d hd => by cases hd; exact rfl)) ?_
        simp [frame53, Act.put, *]
       ·obtain rfl := Option.some.inj ho
        have e18 : X 18 = _ := hI 18 (by kernel_rfl)
        have e19 : X 19 = _ := hI 19 (by kernel_rfl)
        unfold wpOp
        simp only [ho]
        rw [if_pos (by rfl)]
        left
        rw [frame53]
        go_simp
        refine metK (hK.out (.bool true) (fun d hd => by cases hd; exact rfl)) ?_
        simp [frame53, Act.put, *]
       ·obtain rfl := Option.some.inj ho
        have e20 : X 20 = _ := hI 20 (by kernel_rfl)
        unfold wpOp
        simp only [ho]
        rw [if_pos (by rfl)]
        left
        rw [frame53]
        go_simp
        refine metK (hK.out (.bool true) (fun d hd => by cases hd; exact rfl)) ?_
        simp [frame53, Act.put, *]
       ·obtain rfl := Option.some.inj ho
        have e3 : X 3 = _ := hI 3 (by kernel_rfl)
        have e21 : X 21 = _ := hI 21 (by kernel_rfl)
        unfold wpOp
        simp only [ho]
        rw [frame53]
        simp only [e21]
        rw [if_pos (by rfl)]
        left
        go_simp
        refine metK (hK.out (.func (.func g) #[] cb) (fun d hd => by cases hd; exact rfl)) ?_
        simp [frame53, Act.put, *]
       ·obtain rfl := Option.some.inj ho
        have e0 : X 0 = _ := hI 0 (by kernel_rfl)
        have e21 : X 21 = _ := hI 21 (by kernel_rfl)
        unfold wpOp
        simp only [ho]
        rw [frame53]
        simp only [e21]
        rw [if_pos (by rfl)]
        left
        go_simp
        refine metK (hK.out (.slice (some ⟨blk, 0, none⟩) d.size cap) (fun d hd => by cases hd; exact rfl)) ?_
        simp [frame53, Act.put, *]
       ·obtain rfl := Option.some.inj ho
        have e9 : X 9 = _ := hI 9 (by kernel_rfl)
        have e21 : X 21 = _ := hI 21 (by kernel_rfl)
        unfold wpOp
        simp only [ho]
        rw [frame53]
        simp only [e21]
        rw [if_pos (by rfl)]
        left
        go_simp
        refine metK (hK.out (.int .i64 (jp + 1)) (fun d hd => by cases hd; exact rfl)) ?_
        simp [frame53, Act.put, *]
       ·obtain rfl := Option.some.inj ho
        have e21 : X 21 = _ := hI 21 (by kernel_rfl)
        have e23 : X 23 = _ := hI 23 (by kernel_rfl)
        have e24 : X 24 = _ := hI 24 (by kernel_rfl)
        unfold wpOp
        simp only [ho]
        rw [frame53]
        simp only [e21]
        rw [if_pos (by rfl)]
        left
        go_simp
        refine metK (hK.out (.pointer (some ⟨blk, jp + 1, none⟩)) (fun d hd => by cases hd; exact rfl)) ?_
        simp [frame53, Act.put, *]
       ·obtain rfl := Option.some.inj ho
        have e21 : X 21 = _ := hI 21 (by kernel_rfl)
        have e25 : X 25 = _ := hI 25 (by kernel_rfl)
        have c0 := HCX.out vs w' ((hpk 0 (by decide)).2 (by kernel_rfl)) hph
        unfold wpOp
        simp only [ho]
        rw [frame53]
        simp only [e21]
        rw [if_pos (by rfl)]
        left
        go_simp
        refine metK (hK.out (.int .i64 x) (fun d hd => by cases hd; exact rfl)) ?_
        simp [frame53, Act.put, *]
       ·obtain rfl := Option.some.inj ho
        have e0 : X 0 = _ := hI 0 (by kernel_rfl)
        have e21 : X 21 = _ := hI 21 (by kernel_rfl)
        unfold wpOp
        simp only [ho]
        rw [frame53]
        simp only [e21]
        rw [if_pos (by rfl)]
        left
        go_simp
        refine metK (hK.out (.slice (some ⟨blk, 0, none⟩) d.size cap) (fun d hd => by cases hd; exact rfl)) ?_
        simp [frame53, Act.put, *]
       ·obtain rfl := Option.some.inj ho
        have e9 : X 9 = _ := hI 9 (by kernel_rfl)
        have e21 : X 21 = _ := hI 21 (by kernel_rfl)
        unfold wpOp
        simp only [ho]
        rw [frame53]
        simp only [e21]
        rw [if_pos (by rfl)]
        left
        go_simp
        refine metK (hK.out (.int .i64 (jp + 1)) (fun d hd => by cases hd; exact rfl)) ?_
        simp [frame53, Act.put, *]
       ·obtain rfl := Option.some.inj ho
        have e21 : X 21 = _ := hI 21 (by kernel_rfl)
        have e28 : X 28 = _ := hI 28 (by kernel_rfl)
        unfold wpOp
        simp only [ho]
        rw [frame53]
        simp only [e21]
        rw [if_pos (by rfl)]
        left
        go_simp
        refine metK (hK.out (.int .i64 jp) (fun d hd => by cases hd; exact rfl)) ?_
        simp [frame53, Act.put, *]
       ·obtain rfl := Option.some.inj ho
        have e21 : X 21 = _ := hI 21 (by kernel_rfl)
        have e27 : X 27 = _ := hI 27 (by kernel_rfl)
        have e29 : X 29 = _ := hI 29 (by kernel_rfl)
        unfold wpOp
        simp only [ho]
        rw [frame53]
        simp only [e21]
        rw [if_pos (by rfl)]
        left
        go_simp
        refine metK (hK.out (.pointer (some ⟨blk, jp, none⟩)) (fun d hd => by cases hd; exact rfl)) ?_
        simp [frame53, Act.put, *]
       ·obtain rfl := Option.some.inj ho
        have e21 : X 21 = _ := hI 21 (by kernel_rfl)
        have e30 : X 30 = _ := hI 30 (by kernel_rfl)
        have c0 := HCY.out vs w' ((hpk 0 (by decide)).2 (by kernel_rfl)) hph
        unfold wpOp
        simp only [ho]
        rw [frame53]
        simp only [e21]
        rw [if_pos (by rfl)]
        left
        go_simp
        refine metK (hK.out (.int .i64 y) (fun d hd => by cases hd; exact rfl)) ?_
        simp [frame53, Act.put, *]
       ·exact absurd hmi (by decide)
       ·have hl := (hpk 0 (by decide)).1 (by kernel_rfl)
        rcases vs with _ | ⟨v, _ | ⟨v2, vs⟩⟩
        ·simp at hl
        ·obtain ⟨hE1, rfl⟩ := hph
         have e21 : X 21 = _ := hI 21 (by kernel_rfl)
         have e32 : X 32 = .int .i64 z := hX 0 32 (by simp) (by kernel_rfl)
         obtain rfl := Option.some.inj ho
         unfold wpOp
         simp only [ho]
         rw [frame53]
         simp only [e21]
         rw [if_pos (by rfl)]
         left
         go_simp
         refine metK (hK.out (.bool true) (fun d hd => by cases hd; exact rfl)) ?_
         simp [frame53, Act.put, *]
        ·exact hph.elim
       ·obtain rfl := Option.some.inj ho
        have e21 : X 21 = _ := hI 21 (by kernel_rfl)
        have e33 : X 33 = _ := hI 33 (by kernel_rfl)
        unfold wpOp
        simp only [ho]
        rw [if_pos (by rfl)]
        left
        rw [frame53]
        go_simp
        refine metK (hK.out (.bool true) (fun d hd => by cases hd; exact rfl)) ?_
        simp [frame53, Act.put, *]
      ·intro i o ho hmi vs X w' hqi hql hph hX hI K hK
       rcases vs with _ | ⟨v0, _⟩
       ·obtain rfl : 14 = i := hqi
        obtain rfl := Option.some.inj ho
        have e21 : X 21 = _ := hI 21 (by kernel_rfl)
        have e22 : X 22 = _ := hI 22 (by kernel_rfl)
        have e26 : X 26 = _ := hI 26 (by kernel_rfl)
        have e31 : X 31 = _ := hI 31 (by kernel_rfl)
        unfold wpOp
        simp only [ho]
        rw [frame53]
        simp only [e21]
        rw [if_pos (by rfl)]
        left
        go_simp
        refine (HCL.out w' hph).mono ?_
        rintro e w9 ⟨rfl, E9⟩
        refine metK (hK.out (.int .i64 z) w9 ⟨hph.trans E9, rfl⟩) ?_
        simp [frame53, Act.put, *]
       ·simp at hql <;> omega
      ·intro vs X w' hlen hph hX hI
       have e0 : X 0 = _ := hI 0 (by omega) (by kernel_rfl)
       have e1 : X 1 = _ := hI 1 (by omega) (by kernel_rfl)
       have e2 : X 2 = _ := hI 2 (by omega) (by kernel_rfl)
       have e3 : X 3 = _ := hI 3 (by omega) (by kernel_rfl)
       have e4 : X 4 = _ := hI 4 (by omega) (by kernel_rfl)
       have e5 : X 5 = _ := hI 5 (by omega) (by kernel_rfl)
       have e6 : X 6 = _ := hI 6 (by omega) (by kernel_rfl)
       have e7 : X 7 = _ := hI 7 (by omega) (by kernel_rfl)
       have e8 : X 8 = _ := hI 8 (by omega) (by kernel_rfl)
       have e9 : X 9 = _ := hI 9 (by omega) (by kernel_rfl)
       have e10 : X 10 = _ := hI 10 (by omega) (by kernel_rfl)
       have e11 : X 11 = _ := hI 11 (by omega) (by kernel_rfl)
       have e12 : X 12 = _ := hI 12 (by omega) (by kernel_rfl)
       have e13 : X 13 = _ := hI 13 (by omega) (by kernel_rfl)
       have e14 : X 14 = _ := hI 14 (by omega) (by kernel_rfl)
       have e15 : X 15 = _ := hI 15 (by omega) (by kernel_rfl)
       have e16 : X 16 = _ := hI 16 (by omega) (by kernel_rfl)
       have e17 : X 17 = _ := hI 17 (by omega) (by kernel_rfl)
       have e18 : X 18 = _ := hI 18 (by omega) (by kernel_rfl)
       have e19 : X 19 = _ := hI 19 (by omega) (by kernel_rfl)
       have e20 : X 20 = _ := hI 20 (by omega) (by kernel_rfl)
       have e21 : X 21 = _ := hI 21 (by omega) (by kernel_rfl)
       have e22 : X 22 = _ := hI 22 (by omega) (by kernel_rfl)
       have e23 : X 23 = _ := hI 23 (by omega) (by kernel_rfl)
       have e24 : X 24 = _ := hI 24 (by omega) (by kernel_rfl)
       have e25 : X 25 = _ := hI 25 (by omega) (by kernel_rfl)
       have e26 : X 26 = _ := hI 26 (by omega) (by kernel_rfl)
       have e27 : X 27 = _ := hI 27 (by omega) (by kernel_rfl)
       have e28 : X 28 = _ := hI 28 (by omega) (by kernel_rfl)
       have e29 : X 29 = _ := hI 29 (by omega) (by kernel_rfl)
       have e30 : X 30 = _ := hI 30 (by omega) (by kernel_rfl)
       have e31 : X 31 = _ := hI 31 (by omega) (by kernel_rfl)
       have e33 : X 33 = _ := hI 33 (by omega) (by kernel_rfl)
       have e34 : X 34 = _ := hI 34 (by omega) (by kernel_rfl)
       rcases vs with _ | ⟨v0, _ | ⟨vz, vs⟩⟩
       ·simp at hlen
       rotate_left
       ·simp at hlen
       have e32 : X 32 = v0 := hX 0 32 (by simp) (by kernel_rfl)
       clear hX hI hlen
       rw [frame53]
       simp only [e0, e1, e2, e3, e4, e5, e6, e7, e8, e9, e10, e11, e12, e13, e14, e15, e16, e17, e18, e19, e20, e21, e22, e23, e24, e25, e26, e27, e28, e29, e30, e31, e32, e33, e34]
       obtain ⟨hE1, -⟩ := hph
       have hr5 := HRI.out.ext hE1
       have hk5 := HKI.out.trans (Keeps.of_ext (X := fun b => b = blk) hE1)
       generalize w' = W5 at *
       clear HCX HCY HCL
       have hjs : jp + 1 < dj.size := by omega
       have hcx : W5.cell? ⟨blk, jp + 1, none⟩ = some (.int .i64 x) := by rw [← HX0.out]; exact hr5.cell (jp + 1) hjs
       have hcy : W5.cell? ⟨blk, jp, none⟩ = some (.int .i64 y) := by rw [← HY0.out]; exact hr5.cell jp (by omega)
       have hzz := fun o => hr5.frozen o
       have hxx : ∀ vs w', vs.length ≤ 0 → PhX W5 blk (jp + 1) jp x y vs w' → w'.cell? ⟨blk, jp + 1, none⟩ = some (.int .i64 x) := fun vs w' hn h => by
        rcases vs with _ | ⟨u, vs⟩
        ·exact (h.cell (p := ⟨blk, jp + 1, none⟩) hr5.lt).trans hcx
        ·simp at hn
       have hxy : ∀ vs w', vs.length ≤ 0 → PhX W5 blk (jp + 1) jp x y vs w' → w'.cell? ⟨blk, jp, none⟩ = some (.int .i64 y) := fun vs w' hn h => by
        rcases vs with _ | ⟨u, vs⟩
        ·exact (h.cell (p := ⟨blk, jp, none⟩) hr5.lt).trans hcy
        ·simp at hn
       have hs0 : ∀ w', Ext W5 w' → w'.cell? ⟨blk, jp + 1, none⟩ = some (.int .i64 x) ∧ w'.frozen? ⟨blk, jp + 1, none⟩ = false := fun w' h => ⟨(h.cell (p := ⟨blk, jp + 1, none⟩) hr5.lt).trans hcx, (hr5.ext h).frozen _⟩
       have hs1 : ∀ w', Ext W5 w' → (w'.setCell ⟨blk, jp + 1, none⟩ (.int .i64 y)).cell? ⟨blk, jp, none⟩ = some (.int .i64 y) ∧ (w'.setCell ⟨blk, jp + 1, none⟩ (.int .i64 y)).frozen? ⟨blk, jp, none⟩ = false := fun w' h => by
        have h2 := (hr5.ext h).set (jp + 1) y
        refine ⟨?_, h2.frozen _⟩
        have hsz2 : jp < (dj.setIfInBounds (jp + 1) y).size := by rw [Array.size_setIfInBounds]; omega
        have := h2.cell jp hsz2
        rw [this, getElem!_pos _ jp hsz2, Array.getElem_setIfInBounds_ne (by omega) (by omega)]
        rw [← getElem!_pos dj jp (by omega), HY0.out]
       have HXX := hide hxx
       have HXY := hide hxy
       have HS0 := hide hs0
       have HS1 := hide hs1
       have HR5 := hide hr5
       have HK5 := hide hk5
       clear hxx hxy hs0 hs1 hr5 hk5 hcx hcy hzz
       go_upto_region 6 with (fail)
       refine wp_region_ph 53 [15, 17] (PhX W5 blk (jp + 1) jp x y) (fun t v => match t with | 0 => v = .slice (some ⟨blk, 0, none⟩) d.size cap | 1 => v = .int .i64 a | 2 => v = .int .i64 b | 3 => v = .func (.func g) #[] cb | 4 => v = undef | 5 => v = undef | 6 => v = undef | 7 => v = undef | 8 => v = .int .i64 i | 9 => v = .int .i64 (jp + 1) | 10 => v = .int .i64 a | 11 => v = .int .i64 (a + 1) | 12 => v = .int .i64 i | 13 => v = .int .i64 b | 14 => v = .bool true | 15 => v = u15 | 16 => v = u16 | 17 => v = .int .i64 i | 37 => v = .slice (some ⟨blk, 0, none⟩) d.size cap | 38 => v = .int .i64 (jp + 1) | 39 => v = .slice (some ⟨blk, 0, none⟩) d.size cap | 40 => v = .int .i64 (jp + 1) | 41 => v = .int .i64 jp | 42 => v = .slice (some ⟨blk, 0, none⟩) d.size cap | 43 => v = .int .i64 (jp + 1) | 44 => v = .int .i64 jp | 45 => v = .pointer (some ⟨blk, jp, none⟩) | 46 => v = .int .i64 y | 47 => v = .slice (some ⟨blk, 0, none⟩) d.size cap | 48 => v = .int .i64 (jp + 1) | 49 => v = .pointer (some ⟨blk, jp + 1, none⟩) | 50 => v = .int .i64 x | 51 => v = .pointer (some ⟨blk, jp + 1, none⟩) | 52 => v = .pointer (some ⟨blk, jp, none⟩) | _ => True) (by kernel_rfl) rfl (by kernel_rfl) (by kernel_rfl) (by kernel_rfl) ?_ ?_ ?_ ?_ ?_
       ·exact (Below.refl _ _).drew
       ·intro t ht hno
        have hi : t = 0 ∨ t = 1 ∨ t = 2 ∨ t = 3 ∨ t = 4 ∨ t = 5 ∨ t = 6 ∨ t = 7 ∨ t = 8 ∨ t = 9 ∨ t = 10 ∨ t = 11 ∨ t = 12 ∨ t = 13 ∨ t = 14 ∨ t = 15 ∨ t = 16 ∨ t = 17 ∨ t = 18 ∨ t = 19 ∨ t = 20 ∨ t = 21 ∨ t = 22 ∨ t = 23 ∨ t = 24 ∨ t = 25 ∨ t = 26 ∨ t = 27 ∨ t = 28 ∨ t = 29 ∨ t = 30 ∨ t = 31 ∨ t = 32 ∨ t = 33 ∨ t = 34 ∨ t = 35 ∨ t = 36 ∨ t = 37 ∨ t = 38 ∨ t = 39 ∨ t = 40 ∨ t = 41 ∨ t = 42 ∨ t = 43 ∨ t = 44 ∨ t = 45 ∨ t = 46 ∨ t = 47 ∨ t = 48 ∨ t = 49 ∨ t = 50 ∨ t = 51 ∨ t = 52 := by omega
        rcases hi with rfl | rfl | rfl | rfl | rfl | rfl | rfl | rfl | rfl | rfl | rfl | rfl | rfl | rfl | rfl | rfl | rfl | rfl | rfl | rfl | rfl | rfl | rfl | rfl | rfl | rfl | rfl | rfl | rfl | rfl | rfl | rfl | rfl | rfl | rfl | rfl | rfl | rfl | rfl | rfl | rfl | rfl | rfl | rfl | rfl | rfl | rfl | rfl | rfl | rfl | rfl | rfl | rfl
        all_goals first | exact rfl | exact True.intro | exact absurd (hno.symm.trans (by kernel_rfl) : true = false) (by decide)
       ·intro i o ho hmi vs X w' hpk hph hX hI K hK
        have hin : i < 18 := (Array.getElem?_eq_some_iff.1 ho).1
        have hi : i = 0 ∨ i = 1 ∨ i = 2 ∨ i = 3 ∨ i = 4 ∨ i = 5 ∨ i = 6 ∨ i = 7 ∨ i = 8 ∨ i = 9 ∨ i = 10 ∨ i = 11 ∨ i = 12 ∨ i = 13 ∨ i = 14 ∨ i = 15 ∨ i = 16 ∨ i = 17 := by omega
        rcases hi with rfl | rfl | rfl | rfl | rfl | rfl | rfl | rfl | rfl | rfl | rfl | rfl | rfl | rfl | rfl | rfl | rfl | rfl
        ·obtain rfl := Option.some.inj ho
         have e0 : X 0 = _ := hI 0 (by kernel_rfl)
         unfold wpOp
         simp only [ho]
         rw [if_pos (by rfl)]
         left
         rw [frame53]
         go_simp
         refine metK (hK.out (.slice (some ⟨blk, 0, none⟩) d.size cap) (fun d hd => by cases hd; exact rfl)) ?_
         simp [frame53, Act.put, *]
        ·obtain rfl := Option.some.inj ho
         have e9 : X 9 = _ := hI 9 (by kernel_rfl)
         unfold wpOp
         simp only [ho]
         rw [if_pos (by rfl)]
         left
         rw [frame53]
         go_simp
         refine metK (hK.out (.int .i64 (jp + 1)) (fun d hd => by cases hd; exact rfl)) ?_
         simp [frame53, Act.put, *]
        ·obtain rfl := Option.some.inj ho
         have e0 : X 0 = _ := hI 0 (by kernel_rfl)
         unfold wpOp
         simp only [ho]
         rw [if_pos (by rfl)]
         left
         rw [frame53]
         go_simp
         refine metK (hK.out (.slice (some ⟨blk, 0, none⟩) d.size cap) (fun d hd => by cases hd; exact rfl)) ?_
         simp [frame53, Act.put, *]
        ·obtain rfl := Option.some.inj ho
         have e9 : X 9 = _ := hI 9 (by kernel_rfl)
         unfold wpOp
         simp only [ho]
         rw [if_pos (by rfl)]
         left
         rw [frame53]
         go_simp
         refine metK (hK.out (.int .i64 (jp + 1)) (fun d hd => by cases hd; exact rfl)) ?_
         simp [frame53, Act.put, *]
        ·obtain rfl := Option.some.inj ho
         have e40 : X 40 = _ := hI 40 (by kernel_rfl)
         unfold wpOp
         simp only [ho]
         rw [if_pos (by rfl)]
         left
         rw [frame53]
         go_simp
         refine metK (hK.out (.int .i64 jp) (fun d hd => by cases hd; exact rfl)) ?_
         simp [frame53, Act.put, *]
        ·obtain rfl := Option.some.inj ho
         have e0 : X 0 = _ := hI 0 (by kernel_rfl)
         unfold wpOp
         simp only [ho]
         rw [if_pos (by rfl)]
         left
         rw [frame53]
         go_simp
         refine metK (hK.out (.slice (some ⟨blk, 0, none⟩) d.size cap) (fun d hd => by cases hd; exact rfl)) ?_
         simp [frame53, Act.put, *]
        ·obtain rfl := Option.some.inj ho
         have e9 : X 9 = _ := hI 9 (by kernel_rfl)
         unfold wpOp
         simp only [ho]
         rw [if_pos (by rfl)]
         left
         rw [frame53]
         go_simp
         refine metK (hK.out (.int .i64 (jp + 1)) (fun d hd => by cases hd; exact rfl)) ?_
         simp [frame53, Act.put, *]
        ·obtain rfl := Option.some.inj ho
         have e43 : X 43 = _ := hI 43 (by kernel_rfl)
         unfold wpOp
         simp only [ho]
         rw [if_pos (by rfl)]
         left
         rw [frame53]
         go_simp
         refine metK (hK.out (.int .i64 jp) (fun d hd => by cases hd; exact rfl)) ?_
         simp [frame53, Act.put, *]
        ·obtain rfl := Option.some.inj ho
         have e42 : X 42 = _ := hI 42 (by kernel_rfl)
         have e44 : X 44 = _ := hI 44 (by kernel_rfl)
         unfold wpOp
         simp only [ho]
         rw [if_pos (by rfl)]
         left
         rw [frame53]
         go_simp
         refine metK (hK.out (.pointer (some ⟨blk, jp, none⟩)) (fun d hd => by cases hd; exact rfl)) ?_
         simp [frame53, Act.put, *]
        ·obtain rfl := Option.some.inj ho
         have e45 : X 45 = _ := hI 45 (by kernel_rfl)
         have c0 := HXY.out vs w' ((hpk 0 (by decide)).2 (by kernel_rfl)) hph
         unfold wpOp
         simp only [ho]
         rw [if_pos (by rfl)]
         left
         rw [frame53]
         go_simp
         refine metK (hK.out (.int .i64 y) (fun d hd => by cases hd; exact rfl)) ?_
         simp [frame53, Act.put, *]
        ·obtain rfl := Option.some.inj ho
         have e0 : X 0 = _ := hI 0 (by kernel_rfl)
         unfold wpOp
         simp only [ho]
         rw [if_pos (by rfl)]
         left
         rw [frame53]
         go_simp
         refine metK (hK.out (.slice (some ⟨blk, 0, none⟩) d.size cap) (fun d hd => by cases hd; exact rfl)) ?_
         simp [frame53, Act.put, *]
        ·obtain rfl := Option.some.inj ho
         have e9 : X 9 = _ := hI 9 (by kernel_rfl)
         unfold wpOp
         simp only [ho]
         rw [if_pos (by rfl)]
         left
         rw [frame53]
         go_simp
         refine metK (hK.out (.int .i64 (jp + 1)) (fun d hd => by cases hd; exact rfl)) ?_
         simp [frame53, Act.put, *]
        ·obtain rfl := Option.some.inj ho
         have e47 : X 47 = _ := hI 47 (by kernel_rfl)
         have e48 : X 48 = _ := hI 48 (by kernel_rfl)
         unfold wpOp
         simp only [ho]
         rw [if_pos (by rfl)]
         left
         rw [frame53]
         go_simp
         refine metK (hK.out (.pointer (some ⟨blk, jp + 1, none⟩)) (fun d hd => by cases hd; exact rfl)) ?_
         simp [frame53, Act.put, *]
        ·obtain rfl := Option.some.inj ho
         have e49 : X 49 = _ := hI 49 (by kernel_rfl)
         have c0 := HXX.out vs w' ((hpk 0 (by decide)).2 (by kernel_rfl)) hph
         unfold wpOp
         simp only [ho]
         rw [if_pos (by rfl)]
         left
         rw [frame53]
         go_simp
         refine metK (hK.out (.int .i64 x) (fun d hd => by cases hd; exact rfl)) ?_
         simp [frame53, Act.put, *]
        ·obtain rfl := Option.some.inj ho
         have e37 : X 37 = _ := hI 37 (by kernel_rfl)
         have e38 : X 38 = _ := hI 38 (by kernel_rfl)
         unfold wpOp
         simp only [ho]
         rw [if_pos (by rfl)]
         left
         rw [frame53]
         go_simp
         refine metK (hK.out (.pointer (some ⟨blk, jp + 1, none⟩)) (fun d hd => by cases hd; exact rfl)) ?_
         simp [frame53, Act.put, *]
        ·exact absurd hmi (by decide)
        ·obtain rfl := Option.some.inj ho
         have e39 : X 39 = _ := hI 39 (by kernel_rfl)
         have e41 : X 41 = _ := hI 41 (by kernel_rfl)
         unfold wpOp
         simp only [ho]
         rw [if_pos (by rfl)]
         left
         rw [frame53]
         go_simp
         refine metK (hK.out (.pointer (some ⟨blk, jp, none⟩)) (fun d hd => by cases hd; exact rfl)) ?_
         simp [frame53, Act.put, *]
        ·exact absurd hmi (by decide)
       ·intro i o ho hmi vs X w' hqi hql hph hX hI K hK
        rcases vs with _ | ⟨v0, _ | ⟨v1, _⟩⟩
        ·obtain rfl : 15 = i := hqi
         obtain rfl := Option.some.inj ho
         have e46 : X 46 = _ := hI 46 (by kernel_rfl)
         have e51 : X 51 = _ := hI 51 (by kernel_rfl)
         obtain ⟨c0, z0⟩ := HS0.out w' hph
         unfold wpOp
         simp only [ho]
         rw [if_pos (by rfl)]
         left
         rw [frame53]
         go_simp
         refine metK (hK.out undef _ ⟨w', hph, rfl⟩) ?_
         simp [frame53, Act.put, *]
        ·obtain rfl : 17 = i := hqi
         obtain rfl := Option.some.inj ho
         have e50 : X 50 = _ := hI 50 (by kernel_rfl)
         have e52 : X 52 = _ := hI 52 (by kernel_rfl)
         obtain ⟨w1, hE1, rfl⟩ := hph
         obtain ⟨c0, z0⟩ := HS1.out w1 hE1
         unfold wpOp
         simp only [ho]
         rw [if_pos (by rfl)]
         left
         rw [frame53]
         go_simp
         refine metK (hK.out undef _ ⟨w1, hE1, rfl⟩) ?_
         simp [frame53, Act.put, *]
        ·simp at hql <;> omega
       ·intro vs X w' hlen hph hX hI
        have e0 : X 0 = _ := hI 0 (by omega) (by kernel_rfl)
        have e1 : X 1 = _ := hI 1 (by omega) (by kernel_rfl)
        have e2 : X 2 = _ := hI 2 (by omega) (by kernel_rfl)
        have e3 : X 3 = _ := hI 3 (by omega) (by kernel_rfl)
        have e4 : X 4 = _ := hI 4 (by omega) (by kernel_rfl)
        have e5 : X 5 = _ := hI 5 (by omega) (by kernel_rfl)
        have e6 : X 6 = _ := hI 6 (by omega) (by kernel_rfl)
        have e7 : X 7 = _ := hI 7 (by omega) (by kernel_rfl)
        have e8 : X 8 = _ := hI 8 (by omega) (by kernel_rfl)
        have e9 : X 9 = _ := hI 9 (by omega) (by kernel_rfl)
        have e10 : X 10 = _ := hI 10 (by omega) (by kernel_rfl)
        have e11 : X 11 = _ := hI 11 (by omega) (by kernel_rfl)
        have e12 : X 12 = _ := hI 12 (by omega) (by kernel_rfl)
        have e13 : X 13 = _ := hI 13 (by omega) (by kernel_rfl)
        have e14 : X 14 = _ := hI 14 (by omega) (by kernel_rfl)
        have e15 : X 15 = _ := hI 15 (by omega) (by kernel_rfl)
        have e16 : X 16 = _ := hI 16 (by omega) (by kernel_rfl)
        have e17 : X 17 = _ := hI 17 (by omega) (by kernel_rfl)
        have e37 : X 37 = _ := hI 37 (by omega) (by kernel_rfl)
        have e38 : X 38 = _ := hI 38 (by omega) (by kernel_rfl)
        have e39 : X 39 = _ := hI 39 (by omega) (by kernel_rfl)
        have e40 : X 40 = _ := hI 40 (by omega) (by kernel_rfl)
        have e41 : X 41 = _ := hI 41 (by omega) (by kernel_rfl)
        have e42 : X 42 = _ := hI 42 (by omega) (by kernel_rfl)
        have e43 : X 43 = _ := hI 43 (by omega) (by kernel_rfl)
        have e44 : X 44 = _ := hI 44 (by omega) (by kernel_rfl)
        have e45 : X 45 = _ := hI 45 (by omega) (by kernel_rfl)
        have e46 : X 46 = _ := hI 46 (by omega) (by kernel_rfl)
        have e47 : X 47 = _ := hI 47 (by omega) (by kernel_rfl)
        have e48 : X 48 = _ := hI 48 (by omega) (by kernel_rfl)
        have e49 : X 49 = _ := hI 49 (by omega) (by kernel_rfl)
        have e50 : X 50 = _ := hI 50 (by omega) (by kernel_rfl)
        have e51 : X 51 = _ := hI 51 (by omega) (by kernel_rfl)
        have e52 : X 52 = _ := hI 52 (by omega) (by kernel_rfl)
        rcases vs with _ | ⟨v0, _ | ⟨v1, _ | ⟨vz, vs⟩⟩⟩
        ·simp at hlen
        ·simp at hlen
        rotate_left
        ·simp at hlen
        clear hX hI hlen
        rw [frame53]
        simp only [e0, e1, e2, e3, e4, e5, e6, e7, e8, e9, e10, e11, e12, e13, e14, e15, e16, e17, e37, e38, e39, e40, e41, e42, e43, e44, e45, e46, e47, e48, e49, e50, e51, e52]
        obtain ⟨w1, hE1, rfl⟩ := hph
        have hr6 := (HR5.out.ext hE1).swap (jp + 1) jp
        rw [HX0.out, HY0.out] at hr6
        have hk6 := (HK5.out.trans (Keeps.of_ext (X := fun b => b = blk) hE1)).trans ((Keeps.of_set (X := fun b => b = blk) w1 blk (jp + 1) (.int .i64 y) rfl).trans (Keeps.of_set (X := fun b => b = blk) _ blk jp (.int .i64 x) rfl))
        generalize (w1.setCell ⟨blk, jp + 1, none⟩ (.int .i64 y)).setCell ⟨blk, jp, none⟩ (.int .i64 x) = W6 at hr6 hk6 ⊢
        have HR6 := hide hr6
        have HK6 := hide hk6
        clear hr6 hk6
        go_wp2
        go_roundw
        case rel => exact ⟨jp, swp dj (jp + 1) jp, by go_num, by omega, by omega, by rw [swp_size]; exact hsj, HIR.out.swp _ _ (by omega) (by omega), HR6.out, HK6.out, (show Hid _ from by rw [← HI.out, insInner_go (ltOf cf) a (jp + 1) dj (by omega) (by simpa using HLT.out)]; rfl)⟩
        case measure => simp [intOf] <;> omega
     ·have HLF := hide (show ltOf cf dj[jp + 1]! dj[jp]! = false by unfold ltOf; rw [HX0.out, HY0.out, hz]; exact decide_eq_false hzn)
      clear hz
      go_upto_region 4 with (fail)
      refine wp_region_ph 53 [14] (PhC wr z) (fun t v => match t with | 0 => v = .slice (some ⟨blk, 0, none⟩) d.size cap | 1 => v = .int .i64 a | 2 => v = .int .i64 b | 3 => v = .func (.func g) #[] cb | 4 => v = undef | 5 => v = undef | 6 => v = undef | 7 => v = undef | 8 => v = .int .i64 i | 9 => v = .int .i64 (jp + 1) | 10 => v = .int .i64 a | 11 => v = .int .i64 (a + 1) | 12 => v = .int .i64 i | 13 => v = .int .i64 b | 14 => v = .bool true | 15 => v = u15 | 16 => v = u16 | 17 => v = .int .i64 i | 18 => v = .int .i64 (jp + 1) | 19 => v = .int .i64 a | 20 => v = .bool true | 21 => v = .bool true | 22 => v = .func (.func g) #[] cb | 23 => v = .slice (some ⟨blk, 0, none⟩) d.size cap | 24 => v = .int .i64 (jp + 1) | 25 => v = .pointer (some ⟨blk, jp + 1, none⟩) | 26 => v = .int .i64 x | 27 => v = .slice (some ⟨blk, 0, none⟩) d.size cap | 28 => v = .int .i64 (jp + 1) | 29 => v = .int .i64 jp | 30 => v = .pointer (some ⟨blk, jp, none⟩) | 31 => v = .int .i64 y | 33 => v = .bool false | 34 => v = .bool false | _ => True) (by kernel_rfl) rfl (by kernel_rfl) (by kernel_rfl) (by kernel_rfl) ?_ ?_ ?_ ?_ ?_
      ·exact (Below.refl _ _).drew
      ·intro t ht hno
       have hi : t = 0 ∨ t = 1 ∨ t = 2 ∨ t = 3 ∨ t = 4 ∨ t = 5 ∨ t = 6 ∨ t = 7 ∨ t = 8 ∨ t = 9 ∨ t = 10 ∨ t = 11 ∨ t = 12 ∨ t = 13 ∨ t = 14 ∨ t = 15 ∨ t = 16 ∨ t = 17 ∨ t = 18 ∨ t = 19 ∨ t = 20 ∨ t = 21 ∨ t = 22 ∨ t = 23 ∨ t = 24 ∨ t = 25 ∨ t = 26 ∨ t = 27 ∨ t = 28 ∨ t = 29 ∨ t = 30 ∨ t = 31 ∨ t = 32 ∨ t = 33 ∨ t = 34 ∨ t = 35 ∨ t = 36 ∨ t = 37 ∨ t = 38 ∨ t = 39 ∨ t = 40 ∨ t = 41 ∨ t = 42 ∨ t = 43 ∨ t = 44 ∨ t = 45 ∨ t = 46 ∨ t = 47 ∨ t = 48 ∨ t = 49 ∨ t = 50 ∨ t = 51 ∨ t = 52 := by omega
       rcases hi with rfl | rfl | rfl | rfl | rfl | rfl | rfl | rfl | rfl | rfl | rfl | rfl | rfl | rfl | rfl | rfl | rfl | rfl | rfl | rfl | rfl | rfl | rfl | rfl | rfl | rfl | rfl | rfl | rfl | rfl | rfl | rfl | rfl | rfl | rfl | rfl | rfl | rfl | rfl | rfl | rfl | rfl | rfl | rfl | rfl | rfl | rfl | rfl | rfl | rfl | rfl | rfl | rfl
       all_goals first | exact rfl | exact True.intro | exact absurd (hno.symm.trans (by kernel_rfl) : true = false) (by decide)
      ·intro i o ho hmi vs X w' hpk hph hX hI K hK
       have hin : i < 17 := (Array.getElem?_eq_some_iff.1 ho).1
       have hi : i = 0 ∨ i = 1 ∨ i = 2 ∨ i = 3 ∨ i = 4 ∨ i = 5 ∨ i = 6 ∨ i = 7 ∨ i = 8 ∨ i = 9 ∨ i = 10 ∨ i = 11 ∨ i = 12 ∨ i = 13 ∨ i = 14 ∨ i = 15 ∨ i = 16 := by omega
       rcases hi with rfl | rfl | rfl | rfl | rfl | rfl | rfl | rfl | rfl | rfl | rfl | rfl | rfl | rfl | rfl | rfl | rfl
       ·obtain rfl := Option.some.inj ho
        have e9 : X 9 = _ := hI 9 (by kernel_rfl)
        unfold wpOp
        simp only [ho]
        rw [if_pos (by rfl)]
        left
        rw [frame53]
        go_simp
        refine metK (hK.out (.int .i64 (jp + 1)) (fun d hd => by cases hd; exact rfl)) ?_
        simp [frame53, Act.put, *]
       ·obtain rfl := Option.some.inj ho
        have e1 : X 1 = _ := hI 1 (by kernel_rfl)
        unfold wpOp
        simp only [ho]
        rw [if_pos (by rfl)]
        left
        rw [frame53]
        go_simp
        refine metK (hK.out (.int .i64 a) (fun d hd => by cases hd; exact rfl)) ?_
        simp [frame53, Act.put, *]
       ·obtain rfl := Option.some.inj ho
        have e18 : X 18 = _ := hI 18 (by kernel_rfl)
        have e19 : X 19 = _ := hI 19 (by kernel_rfl)
        unfold wpOp
        simp only [ho]
        rw [if_pos (by rfl)]
        left
        rw [frame53]
        go_simp
        refine metK (hK.out (.bool true) (fun d hd => by cases hd; exact rfl)) ?_
        simp [frame53, Act.put, *]
       ·obtain rfl := Option.some.inj ho
        have e20 : X 20 = _ := hI 20 (by kernel_rfl)
        unfold wpOp
        simp only [ho]
        rw [if_pos (by rfl)]
        left
        rw [frame53]
        go_simp
        refine metK (hK.out (.bool true) (fun d hd => by cases hd; exact rfl)) ?_
        simp [frame53, Act.put, *]
       ·obtain rfl := Option.some.inj ho
        have e3 : X 3 = _ := hI 3 (by kernel_rfl)
        have e21 : X 21 = _ := hI 21 (by kernel_rfl)
        unfold wpOp
        simp only [ho]
        rw [frame53]
        simp only [e21]
        rw [if_pos (by rfl)]
        left
        go_simp
        refine metK (hK.out (.func (.func g) #[] cb) (fun d hd => by cases hd; exact rfl)) ?_
        simp [frame53, Act.put, *]
       ·obtain rfl := Option.some.inj ho
        have e0 : X 0 = _ := hI 0 (by kernel_rfl)
        have e21 : X 21 = _ := hI 21 (by kernel_rfl)
        unfold wpOp
        simp only [ho]
        rw [frame53]
        simp only [e21]
        rw [if_pos (by rfl)]
        left
        go_simp
        refine metK (hK.out (.slice (some ⟨blk, 0, none⟩) d.size cap) (fun d hd => by cases hd; exact rfl)) ?_
        simp [frame53, Act.put, *]
       ·obtain rfl := Option.some.inj ho
        have e9 : X 9 = _ := hI 9 (by kernel_rfl)
        have e21 : X 21 = _ := hI 21 (by kernel_rfl)
        unfold wpOp
        simp only [ho]
        rw [frame53]
        simp only [e21]
        rw [if_pos (by rfl)]
        left
        go_simp
        refine metK (hK.out (.int .i64 (jp + 1)) (fun d hd => by cases hd; exact rfl)) ?_
        simp [frame53, Act.put, *]
       ·obtain rfl := Option.some.inj ho
        have e21 : X 21 = _ := hI 21 (by kernel_rfl)
        have e23 : X 23 = _ := hI 23 (by kernel_rfl)
        have e24 : X 24 = _ := hI 24 (by kernel_rfl)
        unfold wpOp
        simp only [ho]
        rw [frame53]
        simp only [e21]
        rw [if_pos (by rfl)]
        left
        go_simp
        refine metK (hK.out (.pointer (some ⟨blk, jp + 1, none⟩)) (fun d hd => by cases hd; exact rfl)) ?_
        simp [frame53, Act.put, *]
       ·obtain rfl := Option.some.inj ho
        have e21 : X 21 = _ := hI 21 (by kernel_rfl)
        have e25 : X 25 = _ := hI 25 (by kernel_rfl)
        have c0 := HCX.out vs w' ((hpk 0 (by decide)).2 (by kernel_rfl)) hph
        unfold wpOp
        simp only [ho]
        rw [frame53]
        simp only [e21]
        rw [if_pos (by rfl)]
        left
        go_simp
        refine metK (hK.out (.int .i64 x) (fun d hd => by cases hd; exact rfl)) ?_
        simp [frame53, Act.put, *]
       ·obtain rfl := Option.some.inj ho
        have e0 : X 0 = _ := hI 0 (by kernel_rfl)
        have e21 : X 21 = _ := hI 21 (by kernel_rfl)
        unfold wpOp
        simp only [ho]
        rw [frame53]
        simp only [e21]
        rw [if_pos (by rfl)]
        left
        go_simp
        refine metK (hK.out (.slice (some ⟨blk, 0, none⟩) d.size cap) (fun d hd => by cases hd; exact rfl)) ?_
        simp [frame53, Act.put, *]
       ·obtain rfl := Option.some.inj ho
        have e9 : X 9 = _ := hI 9 (by kernel_rfl)
        have e21 : X 21 = _ := hI 21 (by kernel_rfl)
        unfold wpOp
        simp only [ho]
        rw [frame53]
        simp only [e21]
        rw [if_pos (by rfl)]
        left
        go_simp
        refine metK (hK.out (.int .i64 (jp + 1)) (fun d hd => by cases hd; exact rfl)) ?_
        simp [frame53, Act.put, *]
       ·obtain rfl := Option.some.inj ho
        have e21 : X 21 = _ := hI 21 (by kernel_rfl)
        have e28 : X 28 = _ := hI 28 (by kernel_rfl)
        unfold wpOp
        simp only [ho]
        rw [frame53]
        simp only [e21]
        rw [if_pos (by rfl)]
        left
        go_simp
        refine metK (hK.out (.int .i64 jp) (fun d hd => by cases hd; exact rfl)) ?_
        simp [frame53, Act.put, *]
       ·obtain rfl := Option.some.inj ho
        have e21 : X 21 = _ := hI 21 (by kernel_rfl)
        have e27 : X 27 = _ := hI 27 (by kernel_rfl)
        have e29 : X 29 = _ := hI 29 (by kernel_rfl)
        unfold wpOp
        simp only [ho]
        rw [frame53]
        simp only [e21]
        rw [if_pos (by rfl)]
        left
        go_simp
        refine metK (hK.out (.pointer (some ⟨blk, jp, none⟩)) (fun d hd => by cases hd; exact rfl)) ?_
        simp [frame53, Act.put, *]
       ·obtain rfl := Option.some.inj ho
        have e21 : X 21 = _ := hI 21 (by kernel_rfl)
        have e30 : X 30 = _ := hI 30 (by kernel_rfl)
        have c0 := HCY.out vs w' ((hpk 0 (by decide)).2 (by kernel_rfl)) hph
        unfold wpOp
        simp only [ho]
        rw [frame53]
        simp only [e21]
        rw [if_pos (by rfl)]
        left
        go_simp
        refine metK (hK.out (.int .i64 y) (fun d hd => by cases hd; exact rfl)) ?_
        simp [frame53, Act.put, *]
       ·exact absurd hmi (by decide)
       ·have hl := (hpk 0 (by decide)).1 (by kernel_rfl)
        rcases vs with _ | ⟨v, _ | ⟨v2, vs⟩⟩
        ·simp at hl
        ·obtain ⟨hE1, rfl⟩ := hph
         have e21 : X 21 = _ := hI 21 (by kernel_rfl)
         have e32 : X 32 = .int .i64 z := hX 0 32 (by simp) (by kernel_rfl)
         obtain rfl := Option.some.inj ho
         unfold wpOp
         simp only [ho]
         rw [frame53]
         simp only [e21]
         rw [if_pos (by rfl)]
         left
         go_simp
         refine metK (hK.out (.bool false) (fun d hd => by cases hd; exact rfl)) ?_
         simp [frame53, Act.put, *]
        ·exact hph.elim
       ·obtain rfl := Option.some.inj ho
        have e21 : X 21 = _ := hI 21 (by kernel_rfl)
        have e33 : X 33 = _ := hI 33 (by kernel_rfl)
        unfold wpOp
        simp only [ho]
        rw [if_pos (by rfl)]
        left
        rw [frame53]
        go_simp
        refine metK (hK.out (.bool false) (fun d hd => by cases hd; exact rfl)) ?_
        simp [frame53, Act.put, *]
      ·intro i o ho hmi vs X w' hqi hql hph hX hI K hK
       rcases vs with _ | ⟨v0, _⟩
       ·obtain rfl : 14 = i := hqi
        obtain rfl := Option.some.inj ho
        have e21 : X 21 = _ := hI 21 (by kernel_rfl)
        have e22 : X 22 = _ := hI 22 (by kernel_rfl)
        have e26 : X 26 = _ := hI 26 (by kernel_rfl)
        have e31 : X 31 = _ := hI 31 (by kernel_rfl)
        unfold wpOp
        simp only [ho]
        rw [frame53]
        simp only [e21]
        rw [if_pos (by rfl)]
        left
        go_simp
        refine (HCL.out w' hph).mono ?_
        rintro e w9 ⟨rfl, E9⟩
        refine metK (hK.out (.int .i64 z) w9 ⟨hph.trans E9, rfl⟩) ?_
        simp [frame53, Act.put, *]
       ·simp at hql <;> omega
      ·intro vs X w' hlen hph hX hI
       have e0 : X 0 = _ := hI 0 (by omega) (by kernel_rfl)
       have e1 : X 1 = _ := hI 1 (by omega) (by kernel_rfl)
       have e2 : X 2 = _ := hI 2 (by omega) (by kernel_rfl)
       have e3 : X 3 = _ := hI 3 (by omega) (by kernel_rfl)
       have e4 : X 4 = _ := hI 4 (by omega) (by kernel_rfl)
       have e5 : X 5 = _ := hI 5 (by omega) (by kernel_rfl)
       have e6 : X 6 = _ := hI 6 (by omega) (by kernel_rfl)
       have e7 : X 7 = _ := hI 7 (by omega) (by kernel_rfl)
       have e8 : X 8 = _ := hI 8 (by omega) (by kernel_rfl)
       have e9 : X 9 = _ := hI 9 (by omega) (by kernel_rfl)
       have e10 : X 10 = _ := hI 10 (by omega) (by kernel_rfl)
       have e11 : X 11 = _ := hI 11 (by omega) (by kernel_rfl)
       have e12 : X 12 = _ := hI 12 (by omega) (by kernel_rfl)
       have e13 : X 13 = _ := hI 13 (by omega) (by kernel_rfl)
       have e14 : X 14 = _ := hI 14 (by omega) (by kernel_rfl)
       have e15 : X 15 = _ := hI 15 (by omega) (by kernel_rfl)
       have e16 : X 16 = _ := hI 16 (by omega) (by kernel_rfl)
       have e17 : X 17 = _ := hI 17 (by omega) (by kernel_rfl)
       have e18 : X 18 = _ := hI 18 (by omega) (by kernel_rfl)
       have e19 : X 19 = _ := hI 19 (by omega) (by kernel_rfl)
       have e20 : X 20 = _ := hI 20 (by omega) (by kernel_rfl)
       have e21 : X 21 = _ := hI 21 (by omega) (by kernel_rfl)
       have e22 : X 22 = _ := hI 22 (by omega) (by kernel_rfl)
       have e23 : X 23 = _ := hI 23 (by omega) (by kernel_rfl)
       have e24 : X 24 = _ := hI 24 (by omega) (by kernel_rfl)
       have e25 : X 25 = _ := hI 25 (by omega) (by kernel_rfl)
       have e26 : X 26 = _ := hI 26 (by omega) (by kernel_rfl)
       have e27 : X 27 = _ := hI 27 (by omega) (by kernel_rfl)
       have e28 : X 28 = _ := hI 28 (by omega) (by kernel_rfl)
       have e29 : X 29 = _ := hI 29 (by omega) (by kernel_rfl)
       have e30 : X 30 = _ := hI 30 (by omega) (by kernel_rfl)
       have e31 : X 31 = _ := hI 31 (by omega) (by kernel_rfl)
       have e33 : X 33 = _ := hI 33 (by omega) (by kernel_rfl)
       have e34 : X 34 = _ := hI 34 (by omega) (by kernel_rfl)
       rcases vs with _ | ⟨v0, _ | ⟨vz, vs⟩⟩
       ·simp at hlen
       rotate_left
       ·simp at hlen
       have e32 : X 32 = v0 := hX 0 32 (by simp) (by kernel_rfl)
       clear hX hI hlen
       rw [frame53]
       simp only [e0, e1, e2, e3, e4, e5, e6, e7, e8, e9, e10, e11, e12, e13, e14, e15, e16, e17, e18, e19, e20, e21, e22, e23, e24, e25, e26, e27, e28, e29, e30, e31, e32, e33, e34]
       obtain ⟨hE1, -⟩ := hph
       have hr5 := HRI.out.ext hE1
       have hk5 := HKI.out.trans (Keeps.of_ext (X := fun b => b = blk) hE1)
       have HR5 := hide hr5
       have HK5 := hide hk5
       clear hr5 hk5
       go_wp2
       go_roundw
       case rel => exact ⟨i + 1, dj, by go_num, by omega, by omega, hsj, HIR.out, HR5.out, HK5.out, OUT.out (.inr (by simpa using HLF.out))⟩
       case measure => simp [intOf] <;> omega
    ·obtain rfl : j = a := by omega
     have hjd : decide ((j : Int) > (j : Int)) = false := decide_eq_false (by omega)
     have hjd2 : ¬ (j : Int) < (j : Int) := by omega
     go_wp2_with fail
     go_quiet (fail)
     rename_i nq
     obtain ⟨wq, hwq⟩ : ∃ wq, wr.drewN nq = wq := ⟨_, rfl⟩
     have HR5 := hide (show RowI wq blk cap dj by rw [← hwq]; exact HRI.out)
     have HK5 := hide (show Keeps (fun b => b = blk) w wq by rw [← hwq]; exact HKI.out.trans (Keeps.of_ext (Below.drewN' (Below.refl _ _) nq)))
     rw [hwq]
     clear hwq
     go_wp2
     go_roundw
     case rel => exact ⟨i + 1, dj, by go_num, by omega, by omega, hsj, HIR.out, HR5.out, HK5.out, OUT.out (.inl (by omega))⟩
     case measure => simp [intOf]; omega
  ·have hltz : ¬ (i : Int) < (b : Int) := by omega
   go_wp2
   go_end0
   refine ⟨rfl, ?_, HKI0.out⟩
   have := HO.out
   rw [insOuter_stop _ _ _ _ _ hlt] at this
   unfold insertionSort
   rw [← this]
   exact HRI0.out
end Go.Proofs.YtceaeiaoanhlnaaDoor
namespace Go.Proofs.YtceaeiaoanhlnaaDoor
open Go.ChangeShapes Go.WideShapes Go.ChangeAt Go.RowKit Go.Lib Go.Shelf
def askZ (mi ab de ti q0 q1 q2 q3 q4 q5 q6 rate rates m p x : Int) : List Int := [m, p, wchk 0 10 13 [mi], wchk 0 10000 16 [ab, de, ti], x, wchk 1 10000 16 [q0], wchk 1 8 16 [q1], wchk 0 10000 16 [q2, q3], wchk 0 100 16 [q4, q6], wchk 1 100 16 [q5], wchk 0 rates 15 [rate]]
def askLaw (Z : List Int) (w : World) (v : Value) : Prop := ∃ a c, v = .slice a 11 c ∧ ∀ i (hi : i < Z.length), ∃ b off u, a = some ⟨b, off, none⟩ ∧ b < w.heap.size ∧ w.cell? ⟨b, off + i, none⟩ = some u ∧ Asks w u Z[i]
theorem askLaw.mk {Z : List Int} {w : World} {a : Option Addr} (h : ∀ i (hi : i < Z.length), ∃ b off u, a = some ⟨b, off, none⟩ ∧ b < w.heap.size ∧ w.cell? ⟨b, off + i, none⟩ = some u ∧ Asks w u Z[i]) : askLaw Z w (.slice a 11 11) := ⟨_, _, rfl, h⟩
/-- what each slot of route.Check's great region holds -/
def ckI (B C : Nat) (mi ab de ti q0 q1 q2 q3 q4 q5 q6 rate rates m p x : Int) (t : Nat) (w : World) (v : Value) : Prop :=
 match t with
 | 1 => v = .int .i64 rates
 | 2 => v = .pointer (some ⟨B, 0, none⟩)
 | 5 => v = .pointer (some ⟨C, 0, none⟩)
 | 4 => v = .int .i64 (((askZ mi ab de ti q0 q1 q2 q3 q4 q5 q6 rate rates m p x).find? (· != 0)).getD 0)
 | 8 => Asks w v m
 | 9 => Asks w v p
 | 10 => v = .pointer (some ⟨B, 4, none⟩)
 | 11 => v = .int .i64 mi
 | 12 => Ints w v [mi]
 | 13 => Asks w v (wchk 0 10 13 [mi])
 | 14 => v = .pointer (some ⟨B, 5, none⟩)
 | 15 => v = .pointer (some ⟨B, 5, none⟩)
 | 16 => v = .int .i64 ab
 | 17 => v = .pointer (some ⟨B, 5, none⟩)
 | 18 => v = .pointer (some ⟨B, 6, none⟩)
 | 19 => v = .int .i64 de
 | 20 => v = .pointer (some ⟨B, 5, none⟩)
 | 21 => v = .pointer (some ⟨B, 7, none⟩)
 | 22 => v = .int .i64 ti
 | 23 => Ints w v [ab, de, ti]
 | 24 => Asks w v (wchk 0 10000 16 [ab, de, ti])
 | 25 => Asks w v x
 | 26 => v = .pointer (some ⟨C, 0, none⟩)
 | 27 => v = .int .i64 q0
 | 28 => Ints w v [q0]
 | 29 => Asks w v (wchk 1 10000 16 [q0])
 | 30 => v = .pointer (some ⟨C, 1, none⟩)
 | 31 => v = .int .i64 q1
 | 32 => Ints w v [q1]
 | 33 => Asks w v (wchk 1 8 16 [q1])
 | 34 => v = .pointer (some ⟨C, 2, none⟩)
 | 35 => v = .int .i64 q2
 | 36 => v = .pointer (some ⟨C, 3, none⟩)
 | 37 => v = .int .i64 q3
 | 38 => Ints w v [q2, q3]
 | 39 => Asks w v (wchk 0 10000 16 [q2, q3])
 | 40 => v = .pointer (some ⟨C, 4, none⟩)
 | 41 => v = .pointer (some ⟨C, 4, none⟩)
 | 42 => v = .int .i64 q4
 | 43 => v = .pointer (some ⟨C, 4, none⟩)
 | 44 => v = .pointer (some ⟨C, 6, none⟩)
 | 45 => v = .int .i64 q6
 | 46 => Ints w v [q4, q6]
 | 47 => Asks w v (wchk 0 100 16 [q4, q6])
 | 48 => v = .pointer (some ⟨C, 4, none⟩)
 | 49 => v = .pointer (some ⟨C, 5, none⟩)
 | 50 => v = .int .i64 q5
 | 51 => Ints w v [q5]
 | 52 => Asks w v (wchk 1 100 16 [q5])
 | 53 => v = .int .i64 rates
 | 54 => v = .pointer (some ⟨B, 18, none⟩)
 | 55 => v = .int .i64 rate
 | 56 => Ints w v [rate]
 | 57 => Asks w v (wchk 0 rates 15 [rate])
 | 58 => askLaw (askZ mi ab de ti q0 q1 q2 q3 q4 q5 q6 rate rates m p x) w v
 | 59 => v = .int .i64 (((askZ mi ab de ti q0 q1 q2 q3 q4 q5 q6 rate rates m p x).find? (· != 0)).getD 0)
 | _ => True
theorem ckI_ext (B C : Nat) (mi ab de ti q0 q1 q2 q3 q4 q5 q6 rate rates m p x : Int) (t : Nat) (w w' : World) (v : Value) (e : Ext w w') (h : ckI B C mi ab de ti q0 q1 q2 q3 q4 q5 q6 rate rates m p x t w v) : ckI B C mi ab de ti q0 q1 q2 q3 q4 q5 q6 rate rates m p x t w' v := by
 unfold ckI at *
 split at h <;> first | exact h | exact Sl.ext h e | exact Asks.ext h e | skip
 obtain ⟨a, c, h1, h2⟩ := h
 refine ⟨a, c, h1, fun i hi => ?_⟩
 obtain ⟨b, off, u, k1, k2, k3, k4⟩ := h2 i hi
 exact ⟨b, off, u, k1, Nat.lt_of_lt_of_le k2 e.size, (e.cell (p := ⟨b, off + i, none⟩) k2).trans k3, k4.ext e⟩
theorem ints_new (w : World) (xs : List Int) (t : TypeId) (hl : xs.length ≤ 9223372036854775807) : Ints (w.alloc (.cells (xs.flatMap encI).toArray t)) (.slice (some ⟨w.heap.size, 0, none⟩) xs.length xs.length) xs := by
 refine Sl.of_own (enc := encI) (size := 1) (fun _ => rfl) (base := 0) (e := t) ⟨by simp [length_flatMap_enc (enc := encI) (size := 1) (fun _ => rfl)], .inr ⟨w.heap.size, xs.length, _, rfl, Nat.zero_le _, heap_alloc_new w _, Nat.le_refl _, by unfold maxLen; exact hl, by simp [length_flatMap_enc (enc := encI) (size := 1) (fun _ => rfl)], by rw [Nat.mul_one]; exact List.take_of_length_le (by simp [length_flatMap_enc (enc := encI) (size := 1) (fun _ => rfl)])⟩⟩ hl
theorem askg_cons (z : Int) (Z : List Int) : (((z :: Z).find? (· != 0)).getD 0) = if z ≠ 0 then z else ((Z.find? (· != 0)).getD 0) := by
 by_cases h : z = 0
 ·subst h; simp
 ·rw [if_pos h, List.find?_cons, (by simpa using h : (z != 0) = true)]; rfl
theorem wchk_if (lo hi z : Int) (L : List Int) (R : Int) (hz : z ≠ 0) : (if wchk lo hi z L ≠ 0 then wchk lo hi z L else R) = if L.any (outB lo hi) = true then z else R := by
 unfold wchk
 by_cases h : L.any (outB lo hi) = true
 ·rw [if_pos h, if_pos hz, if_pos h]
 ·rw [if_neg h, if_neg (by simp), if_neg h]
theorem rchk_ask (r : RuleD) (rates : Int) : rchk r rates = ((askZ r.mi r.ab r.de r.ti r.q0 r.q1 r.q2 r.q3 r.q4 r.q5 r.q6 r.rate rates (mchk (bl r.path) r.H) (Sp.check r.P) (wrchk r.pre r.S r.D)).find? (· != 0)).getD 0 := by
 have e16 : (16 : Int) ≠ 0 := by omega
 have e13 : (13 : Int) ≠ 0 := by omega
 have e15 : (15 : Int) ≠ 0 := by omega
 unfold askZ rchk
 simp only [askg_cons, wchk_if _ _ _ _ _ e16, wchk_if _ _ _ _ _ e13, wchk_if _ _ _ _ _ e15, List.find?_nil, Option.getD_none, List.any_cons, List.any_nil, Bool.or_false]
 unfold injB polB
 generalize mchk (bl r.path) r.H = m
 generalize Sp.check r.P = p
 generalize wrchk r.pre r.S r.D = x
 generalize outB 0 10 r.mi = b0
 generalize outB 0 10000 r.ab = b1
 generalize outB 0 10000 r.de = b2
 generalize outB 0 10000 r.ti = b3
 generalize outB 1 10000 r.q0 = b4
 generalize outB 1 8 r.q1 = b5
 generalize outB 0 10000 r.q2 = b6
 generalize outB 0 10000 r.q3 = b7
 generalize outB 0 100 r.q4 = b8
 generalize outB 1 100 r.q5 = b9
 generalize outB 0 100 r.q6 = b10
 generalize outB 0 rates r.rate = b11
 by_cases hm : m ≠ 0
 ·simp only [if_pos hm]
 simp only [if_neg hm]
 by_cases hp : p ≠ 0
 ·simp only [if_pos hp]
 simp only [if_neg hp]
 cases b0
 rotate_left
 ·rfl
 simp only [Bool.false_eq_true, if_false]
 rw [← Bool.or_assoc]
 generalize (b1 || b2 || b3) = bi
 cases bi
 rotate_left
 ·rfl
 simp only [Bool.false_eq_true, if_false]
 by_cases hx : x ≠ 0
 ·simp only [if_pos hx]
 simp only [if_neg hx]
 cases b4
 rotate_left
 ·rfl
 cases b5
 rotate_left
 ·rfl
 cases b6
 rotate_left
 ·cases b7 <;> rfl
 cases b7
 rotate_left
 ·rfl
 cases b8
 rotate_left
 ·cases b9 <;> cases b10 <;> rfl
 cases b10
 rotate_left
 ·cases b9 <;> rfl
 cases b9
 rotate_left
 ·rfl
 cases b11 <;> rfl
theorem frame60 (x : Nat → Value) : frameOf 60 x = #[x 0, x 1, x 2, x 3, x 4, x 5, x 6, x 7, x 8, x 9, x 10, x 11, x 12, x 13, x 14, x 15, x 16, x 17, x 18, x 19, x 20, x 21, x 22, x 23, x 24, x 25, x 26, x 27, x 28, x 29, x 30, x 31, x 32, x 33, x 34, x 35, x 36, x 37, x 38, x 39, x 40, x 41, x 42, x 43, x 44, x 45, x 46, x 47, x 48, x 49, x 50, x 51, x 52, x 53, x 54, x 55, x 56, x 57, x 58, x 59] := rfl
set_option maxRecDepth 100000 in
set_option maxHeartbeats 8000000 in
theorem hrchk_any (r : RuleD) (rates : Int) (w : World) (hok : RuleOk w r) (hf : RuleFit r) (hm : MaxV w) :
  Calls Tryd.prog 46 #[r.val, .int .i64 rates] w fun e w' => e = .returned (.int .i64 (rchk r rates)) ∧ Ext w w' := by
 have hok0 := hide hok
 have hf0 := hide hf
 have hr0 : ∃ r0, r0 = r := ⟨r, rfl⟩
 obtain ⟨r0, hr0⟩ := hr0
 have HR0 := hide hr0
 clear hr0
 obtain ⟨path, ex, hv, H, pv, P, mi, ab, de, ti, pre, sv, S, dv, D, q0, q1, q2, q3, q4, q5, q6, rate⟩ := r
 obtain ⟨hH, hP, hS, hD⟩ := hok
 simp only [RuleD.val] at *
 obtain ⟨_, a1, c1, rfl⟩ := hH.shape
 obtain ⟨_, a2, c2, rfl⟩ := hP.shape
 obtain ⟨_, a3, c3, rfl⟩ := hS.shape
 obtain ⟨_, a4, c4, rfl⟩ := hD.shape
 clear hH hP hS hD hf
 go_enter Tryd.func46, Tryd.ntmps46
 go_upto_region 2 with (fail)
 generalize hW : World.alloc (World.alloc w (.cells #[.string path, .bool ex, .slice a1 H.length c1, .slice a2 P.length c2, .int .i64 mi, .int .i64 ab, .int .i64 de, .int .i64 ti, .string pre, .slice a3 S.length c3, .slice a4 D.length c4, .int .i64 q0, .int .i64 q1, .int .i64 q2, .int .i64 q3, .int .i64 q4, .int .i64 q5, .int .i64 q6, .int .i64 rate] 43)) (.cells #[.int .i64 q0, .int .i64 q1, .int .i64 q2, .int .i64 q3, .int .i64 q4, .int .i64 q5, .int .i64 q6] 41) = W
 have hcb : ∀ X, Ext W X → ∀ j u, ([.string path, .bool ex, .slice a1 H.length c1, .slice a2 P.length c2, .int .i64 mi, .int .i64 ab, .int .i64 de, .int .i64 ti, .string pre, .slice a3 S.length c3, .slice a4 D.length c4, .int .i64 q0, .int .i64 q1, .int .i64 q2, .int .i64 q3, .int .i64 q4, .int .i64 q5, .int .i64 q6, .int .i64 rate] : List Value)[j]? = some u → X.cell? ⟨w.heap.size, j, none⟩ = some u := fun X hX j u hu => by
  subst hW
  rw [hX.cell (p := ⟨w.heap.size, j, none⟩) (by simp; omega)]
  have h1 := cells_new w [.string path, .bool ex, .slice a1 H.length c1, .slice a2 P.length c2, .int .i64 mi, .int .i64 ab, .int .i64 de, .int .i64 ti, .string pre, .slice a3 S.length c3, .slice a4 D.length c4, .int .i64 q0, .int .i64 q1, .int .i64 q2, .int .i64 q3, .int .i64 q4, .int .i64 q5, .int .i64 q6, .int .i64 rate] 43 j u hu
  rw [add_cell] at h1
  have h2 := ((Below.refl _ (w.alloc (.cells #[.string path, .bool ex, .slice a1 H.length c1, .slice a2 P.length c2, .int .i64 mi, .int .i64 ab, .int .i64 de, .int .i64 ti, .string pre, .slice a3 S.length c3, .slice a4 D.length c4, .int .i64 q0, .int .i64 q1, .int .i64 q2, .int .i64 q3, .int .i64 q4, .int .i64 q5, .int .i64 q6, .int .i64 rate] 43))).alloc (Nat.le_refl _) (.cells #[.int .i64 q0, .int .i64 q1, .int .i64 q2, .int .i64 q3, .int .i64 q4, .int .i64 q5, .int .i64 q6] 41)).cell (p := ⟨w.heap.size, j, none⟩) (by simp)
  exact h2.trans h1
 have hcc : ∀ X, Ext W X → ∀ j u, ([.int .i64 q0, .int .i64 q1, .int .i64 q2, .int .i64 q3, .int .i64 q4, .int .i64 q5, .int .i64 q6] : List Value)[j]? = some u → X.cell? ⟨w.heap.size + 1, j, none⟩ = some u := fun X hX j u hu => by
  subst hW
  rw [hX.cell (p := ⟨w.heap.size + 1, j, none⟩) (by simp)]
  have h1 := cells_new (w.alloc (.cells #[.string path, .bool ex, .slice a1 H.length c1, .slice a2 P.length c2, .int .i64 mi, .int .i64 ab, .int .i64 de, .int .i64 ti, .string pre, .slice a3 S.length c3, .slice a4 D.length c4, .int .i64 q0, .int .i64 q1, .int .i64 q2, .int .i64 q3, .int .i64 q4, .int .i64 q5, .int .i64 q6, .int .i64 rate] 43)) [.int .i64 q0, .int .i64 q1, .int .i64 q2, .int .i64 q3, .int .i64 q4, .int .i64 q5, .int .i64 q6] 41 j u hu
  rw [add_cell] at h1
  simpa using h1
 have hE0 : Ext w W := by
  subst hW
  exact ((Below.refl _ w).alloc (Nat.le_refl _) _).alloc (by simp) _
 have HCB := hide hcb
 have HCC := hide hcc
 have HE0 := hide hE0
 clear hcb hcc hE0
 obtain ⟨m, hmm⟩ : ∃ m, mchk (bl path) H = m := ⟨_, rfl⟩
 obtain ⟨p, hpp⟩ : ∃ m, Sp.check P = m := ⟨_, rfl⟩
 obtain ⟨x, hxx⟩ : ∃ m, wrchk pre S D = m := ⟨_, rfl⟩
 have hce : ∀ Y, Ext W Y → CellR Y w.heap.size (⟨path, ex, .slice a1 H.length c1, H, .slice a2 P.length c2, P, mi, ab, de, ti, pre, .slice a3 S.length c3, S, .slice a4 D.length c4, D, q0, q1, q2, q3, q4, q5, q6, rate⟩ : RuleD) := fun Y hY => ⟨by have := HE0.out.size; have := hY.size; have h3 : w.heap.size + 1 < W.heap.size := (by subst hW; simp); omega, HCB.out Y hY⟩
 have hmk : ∀ X, Ext W X → Asks X (.func (.func 71) #[] #[.pointer (some ⟨w.heap.size, 0, none⟩)]) m ∧ Asks X (.func (.func 73) #[] #[.pointer (some ⟨w.heap.size, 0, none⟩)]) p ∧ Asks X (.func (.func 76) #[] #[.pointer (some ⟨w.heap.size, 0, none⟩)]) x := fun X hX => by
  refine ⟨⟨_, _, rfl, fun w => by kernel_rfl, fun Y hY => ?_⟩, ⟨_, _, rfl, fun w => by kernel_rfl, fun Y hY => ?_⟩, ⟨_, _, rfl, fun w => by kernel_rfl, fun Y hY => ?_⟩⟩
  ·rw [← hmm]
   exact ck1_any (⟨path, ex, .slice a1 H.length c1, H, .slice a2 P.length c2, P, mi, ab, de, ti, pre, .slice a3 S.length c3, S, .slice a4 D.length c4, D, q0, q1, q2, q3, q4, q5, q6, rate⟩ : RuleD) _ Y (hce Y (Ext.trans hX hY)) (hok0.out.ext (HE0.out.trans (Ext.trans hX hY))) hf0.out (hm.ext (HE0.out.trans (Ext.trans hX hY)))
  ·rw [← hpp]
   exact ck2_any (⟨path, ex, .slice a1 H.length c1, H, .slice a2 P.length c2, P, mi, ab, de, ti, pre, .slice a3 S.length c3, S, .slice a4 D.length c4, D, q0, q1, q2, q3, q4, q5, q6, rate⟩ : RuleD) _ Y (hce Y (Ext.trans hX hY)) (hok0.out.ext (HE0.out.trans (Ext.trans hX hY))) hf0.out
  ·rw [← hxx]
   exact ck3_any (⟨path, ex, .slice a1 H.length c1, H, .slice a2 P.length c2, P, mi, ab, de, ti, pre, .slice a3 S.length c3, S, .slice a4 D.length c4, D, q0, q1, q2, q3, q4, q5, q6, rate⟩ : RuleD) _ Y (hce Y (Ext.trans hX hY)) (hok0.out.ext (HE0.out.trans (Ext.trans hX hY))) hf0.out (hm.ext (HE0.out.trans (Ext.trans hX hY)))
 have HMK := hide hmk
 clear hmk hce hW
 have HRC := hide (show rchk (⟨path, ex, .slice a1 H.length c1, H, .slice a2 P.length c2, P, mi, ab, de, ti, pre, .slice a3 S.length c3, S, .slice a4 D.length c4, D, q0, q1, q2, q3, q4, q5, q6, rate⟩ : RuleD) rates = ((askZ mi ab de ti q0 q1 q2 q3 q4 q5 q6 rate rates m p x).find? (· != 0)).getD 0 by rw [← hmm, ← hpp, ← hxx]; exact rchk_ask (⟨path, ex, .slice a1 H.length c1, H, .slice a2 P.length c2, P, mi, ab, de, ti, pre, .slice a3 S.length c3, S, .slice a4 D.length c4, D, q0, q1, q2, q3, q4, q5, q6, rate⟩ : RuleD) rates)
 clear hmm hpp hxx
 refine wp_region_rg 60 (ckI w.heap.size (w.heap.size + 1) mi ab de ti q0 q1 q2 q3 q4 q5 q6 rate rates m p x) (by kernel_rfl) rfl (by kernel_rfl) (by kernel_rfl) (fun t w' w'' v e h => ckI_ext _ _ _ _ _ _ _ _ _ _ _ _ _ _ _ _ _ _ t w' w'' v e h) ?_ ?_ ?_
 ·intro t ht hno
  have hi : t = 0 ∨ t = 1 ∨ t = 2 ∨ t = 3 ∨ t = 4 ∨ t = 5 ∨ t = 6 ∨ t = 7 ∨ t = 8 ∨ t = 9 ∨ t = 10 ∨ t = 11 ∨ t = 12 ∨ t = 13 ∨ t = 14 ∨ t = 15 ∨ t = 16 ∨ t = 17 ∨ t = 18 ∨ t = 19 ∨ t = 20 ∨ t = 21 ∨ t = 22 ∨ t = 23 ∨ t = 24 ∨ t = 25 ∨ t = 26 ∨ t = 27 ∨ t = 28 ∨ t = 29 ∨ t = 30 ∨ t = 31 ∨ t = 32 ∨ t = 33 ∨ t = 34 ∨ t = 35 ∨ t = 36 ∨ t = 37 ∨ t = 38 ∨ t = 39 ∨ t = 40 ∨ t = 41 ∨ t = 42 ∨ t = 43 ∨ t = 44 ∨ t = 45 ∨ t = 46 ∨ t = 47 ∨ t = 48 ∨ t = 49 ∨ t = 50 ∨ t = 51 ∨ t = 52 ∨ t = 53 ∨ t = 54 ∨ t = 55 ∨ t = 56 ∨ t = 57 ∨ t = 58 ∨ t = 59 := by omega
  rcases hi with rfl | rfl | rfl | rfl | rfl | rfl | rfl | rfl | rfl | rfl | rfl | rfl | rfl | rfl | rfl | rfl | rfl | rfl | rfl | rfl | rfl | rfl | rfl | rfl | rfl | rfl | rfl | rfl | rfl | rfl | rfl | rfl | rfl | rfl | rfl | rfl | rfl | rfl | rfl | rfl | rfl | rfl | rfl | rfl | rfl | rfl | rfl | rfl | rfl | rfl | rfl | rfl | rfl | rfl | rfl | rfl | rfl | rfl | rfl | rfl
  all_goals first | exact rfl | exact True.intro | exact absurd (hno.symm.trans (by kernel_rfl) : true = false) (by decide)
 ·intro i o ho X w' hE hI K hK
  have hin : i < 53 := (Array.getElem?_eq_some_iff.1 ho).1
  have hi : i = 0 ∨ i = 1 ∨ i = 2 ∨ i = 3 ∨ i = 4 ∨ i = 5 ∨ i = 6 ∨ i = 7 ∨ i = 8 ∨ i = 9 ∨ i = 10 ∨ i = 11 ∨ i = 12 ∨ i = 13 ∨ i = 14 ∨ i = 15 ∨ i = 16 ∨ i = 17 ∨ i = 18 ∨ i = 19 ∨ i = 20 ∨ i = 21 ∨ i = 22 ∨ i = 23 ∨ i = 24 ∨ i = 25 ∨ i = 26 ∨ i = 27 ∨ i = 28 ∨ i = 29 ∨ i = 30 ∨ i = 31 ∨ i = 32 ∨ i = 33 ∨ i = 34 ∨ i = 35 ∨ i = 36 ∨ i = 37 ∨ i = 38 ∨ i = 39 ∨ i = 40 ∨ i = 41 ∨ i = 42 ∨ i = 43 ∨ i = 44 ∨ i = 45 ∨ i = 46 ∨ i = 47 ∨ i = 48 ∨ i = 49 ∨ i = 50 ∨ i = 51 ∨ i = 52 := by omega
  rcases hi with rfl | rfl | rfl | rfl | rfl | rfl | rfl | rfl | rfl | rfl | rfl | rfl | rfl | rfl | rfl | rfl | rfl | rfl | rfl | rfl | rfl | rfl | rfl | rfl | rfl | rfl | rfl | rfl | rfl | rfl | rfl | rfl | rfl | rfl | rfl | rfl | rfl | rfl | rfl | rfl | rfl | rfl | rfl | rfl | rfl | rfl | rfl | rfl | rfl | rfl | rfl | rfl | rfl
  ·obtain rfl := Option.some.inj ho
   have e2 : X 2 = _ := hI 2 (by kernel_rfl)
   unfold wpOp
   simp only [ho]
   rw [if_pos (by rfl)]
   left
   rw [frame60]
   go_simp
   refine metK (hK.out (.func (.func 71) #[] #[.pointer (some ⟨w.heap.size, 0, none⟩)]) _ (Below.refl _ _) (fun d hd => by cases hd; exact (HMK.out _ hE).1)) ?_
   simp [frame60, Act.put, *]
  ·obtain rfl := Option.some.inj ho
   have e2 : X 2 = _ := hI 2 (by kernel_rfl)
   unfold wpOp
   simp only [ho]
   rw [if_pos (by rfl)]
   left
   rw [frame60]
   go_simp
   refine metK (hK.out (.func (.func 73) #[] #[.pointer (some ⟨w.heap.size, 0, none⟩)]) _ (Below.refl _ _) (fun d hd => by cases hd; exact (HMK.out _ hE).2.1)) ?_
   simp [frame60, Act.put, *]
  ·obtain rfl := Option.some.inj ho
   have e2 : X 2 = _ := hI 2 (by kernel_rfl)
   unfold wpOp
   simp only [ho]
   rw [if_pos (by rfl)]
   left
   rw [frame60]
   go_simp
   refine metK (hK.out (.pointer (some ⟨w.heap.size, 4, none⟩)) _ (Below.refl _ _) (fun d hd => by cases hd; exact rfl)) ?_
   simp [frame60, Act.put, *]
  ·obtain rfl := Option.some.inj ho
   have e10 : X 10 = _ := hI 10 (by kernel_rfl)
   have c := HCB.out _ hE 4 _ rfl
   unfold wpOp
   simp only [ho]
   rw [if_pos (by rfl)]
   left
   rw [frame60]
   go_simp
   refine metK (hK.out (.int .i64 mi) _ (Below.refl _ _) (fun d hd => by cases hd; exact rfl)) ?_
   simp [frame60, Act.put, *]
  ·obtain rfl := Option.some.inj ho
   have e11 : X 11 = _ := hI 11 (by kernel_rfl)
   unfold wpOp
   simp only [ho]
   rw [if_pos (by rfl)]
   left
   rw [frame60]
   go_simp
   refine metK (hK.out (.slice (some ⟨w'.heap.size, 0, none⟩) 1 1) _ ((Below.refl _ _).alloc (Nat.le_refl _) _) (fun d hd => by cases hd; exact ints_new w' [mi] 3 (by simp))) ?_
   simp [frame60, Act.put, *]
  ·obtain rfl := Option.some.inj ho
   have e12 : Ints w' (X 12) [mi] := hI 12 (by kernel_rfl)
   have E12 := hide e12
   clear e12
   unfold wpOp
   simp only [ho]
   rw [if_pos (by rfl)]
   left
   rw [frame60]
   go_simp
   refine (within_any [mi] 0 10 13 _ w' E12.out).mono ?_
   rintro e w9 ⟨u, rfl, hA, E9⟩
   refine metK (hK.out u _ E9 (fun d hd => by cases hd; exact hA)) ?_
   simp [frame60, Act.put, *]
  ·obtain rfl := Option.some.inj ho
   have e2 : X 2 = _ := hI 2 (by kernel_rfl)
   unfold wpOp
   simp only [ho]
   rw [if_pos (by rfl)]
   left
   rw [frame60]
   go_simp
   refine metK (hK.out (.pointer (some ⟨w.heap.size, 5, none⟩)) _ (Below.refl _ _) (fun d hd => by cases hd; exact rfl)) ?_
   simp [frame60, Act.put, *]
  ·obtain rfl := Option.some.inj ho
   have e14 : X 14 = _ := hI 14 (by kernel_rfl)
   unfold wpOp
   simp only [ho]
   rw [if_pos (by rfl)]
   left
   rw [frame60]
   go_simp
   refine metK (hK.out (.pointer (some ⟨w.heap.size, 5, none⟩)) _ (Below.refl _ _) (fun d hd => by cases hd; exact rfl)) ?_
   simp [frame60, Act.put, *]
  ·obtain rfl := Option.some.inj ho
   have e15 : X 15 = _ := hI 15 (by kernel_rfl)
   have c := HCB.out _ hE 5 _ rfl
   unfold wpOp
   simp only [ho]
   rw [if_pos (by rfl)]
   left
   rw [frame60]
   go_simp
   refine metK (hK.out (.int .i64 ab) _ (Below.refl _ _) (fun d hd => by cases hd; exact rfl)) ?_
   simp [frame60, Act.put, *]
  ·obtain rfl := Option.some.inj ho
   have e2 : X 2 = _ := hI 2 (by kernel_rfl)
   unfold wpOp
   simp only [ho]
   rw [if_pos (by rfl)]
   left
   rw [frame60]
   go_simp
   refine metK (hK.out (.pointer (some ⟨w.heap.size, 5, none⟩)) _ (Below.refl _ _) (fun d hd => by cases hd; exact rfl)) ?_
   simp [frame60, Act.put, *]
  ·obtain rfl := Option.some.inj ho
   have e17 : X 17 = _ := hI 17 (by kernel_rfl)
   unfold wpOp
   simp only [ho]
   rw [if_pos (by rfl)]
   left
   rw [frame60]
   go_simp
   refine metK (hK.out (.pointer (some ⟨w.heap.size, 6, none⟩)) _ (Below.refl _ _) (fun d hd => by cases hd; exact rfl)) ?_
   simp [frame60, Act.put, *]
  ·obtain rfl := Option.some.inj ho
   have e18 : X 18 = _ := hI 18 (by kernel_rfl)
   have c := HCB.out _ hE 6 _ rfl
   unfold wpOp
   simp only [ho]
   rw [if_pos (by rfl)]
   left
   rw [frame60]
   go_simp
   refine metK (hK.out (.int .i64 de) _ (Below.refl _ _) (fun d hd => by cases hd; exact rfl)) ?_
   simp [frame60, Act.put, *]
  ·obtain rfl := Option.some.inj ho
   have e2 : X 2 = _ := hI 2 (by kernel_rfl)
   unfold wpOp
   simp only [ho]
   rw [if_pos (by rfl)]
   left
   rw [frame60]
   go_simp
   refine metK (hK.out (.pointer (some ⟨w.heap.size, 5, none⟩)) _ (Below.refl _ _) (fun d hd => by cases hd; exact rfl)) ?_
   simp [frame60, Act.put, *]
  ·obtain rfl := Option.some.inj ho
   have e20 : X 20 = _ := hI 20 (by kernel_rfl)
   unfold wpOp
   simp only [ho]
   rw [if_pos (by rfl)]
   left
   rw [frame60]
   go_simp
   refine metK (hK.out (.pointer (some ⟨w.heap.size, 7, none⟩)) _ (Below.refl _ _) (fun d hd => by cases hd; exact rfl)) ?_
   simp [frame60, Act.put, *]
  ·obtain rfl := Option.some.inj ho
   have e21 : X 21 = _ := hI 21 (by kernel_rfl)
   have c := HCB.out _ hE 7 _ rfl
   unfold wpOp
   simp only [ho]
   rw [if_pos (by rfl)]
   left
   rw [frame60]
   go_simp
   refine metK (hK.out (.int .i64 ti) _ (Below.refl _ _) (fun d hd => by cases hd; exact rfl)) ?_
   simp [frame60, Act.put, *]
  ·obtain rfl := Option.some.inj ho
   have e16 : X 16 = _ := hI 16 (by kernel_rfl)
   have e19 : X 19 = _ := hI 19 (by kernel_rfl)
   have e22 : X 22 = _ := hI 22 (by kernel_rfl)
   unfold wpOp
   simp only [ho]
   rw [if_pos (by rfl)]
   left
   rw [frame60]
   go_simp
   refine metK (hK.out (.slice (some ⟨w'.heap.size, 0, none⟩) 3 3) _ ((Below.refl _ _).alloc (Nat.le_refl _) _) (fun d hd => by cases hd; exact ints_new w' [ab, de, ti] 3 (by simp))) ?_
   simp [frame60, Act.put, *]
  ·obtain rfl := Option.some.inj ho
   have e23 : Ints w' (X 23) [ab, de, ti] := hI 23 (by kernel_rfl)
   have E23 := hide e23
   clear e23
   unfold wpOp
   simp only [ho]
   rw [if_pos (by rfl)]
   left
   rw [frame60]
   go_simp
   refine (within_any [ab, de, ti] 0 10000 16 _ w' E23.out).mono ?_
   rintro e w9 ⟨u, rfl, hA, E9⟩
   refine metK (hK.out u _ E9 (fun d hd => by cases hd; exact hA)) ?_
   simp [frame60, Act.put, *]
  ·obtain rfl := Option.some.inj ho
   have e2 : X 2 = _ := hI 2 (by kernel_rfl)
   unfold wpOp
   simp only [ho]
   rw [if_pos (by rfl)]
   left
   rw [frame60]
   go_simp
   refine metK (hK.out (.func (.func 76) #[] #[.pointer (some ⟨w.heap.size, 0, none⟩)]) _ (Below.refl _ _) (fun d hd => by cases hd; exact (HMK.out _ hE).2.2)) ?_
   simp [frame60, Act.put, *]
  ·obtain rfl := Option.some.inj ho
   have e5 : X 5 = _ := hI 5 (by kernel_rfl)
   unfold wpOp
   simp only [ho]
   rw [if_pos (by rfl)]
   left
   rw [frame60]
   go_simp
   refine metK (hK.out (.pointer (some ⟨w.heap.size + 1, 0, none⟩)) _ (Below.refl _ _) (fun d hd => by cases hd; exact rfl)) ?_
   simp [frame60, Act.put, *]
  ·obtain rfl := Option.some.inj ho
   have e26 : X 26 = _ := hI 26 (by kernel_rfl)
   have c := HCC.out _ hE 0 _ rfl
   unfold wpOp
   simp only [ho]
   rw [if_pos (by rfl)]
   left
   rw [frame60]
   go_simp
   refine metK (hK.out (.int .i64 q0) _ (Below.refl _ _) (fun d hd => by cases hd; exact rfl)) ?_
   simp [frame60, Act.put, *]
  ·obtain rfl := Option.some.inj ho
   have e27 : X 27 = _ := hI 27 (by kernel_rfl)
   unfold wpOp
   simp only [ho]
   rw [if_pos (by rfl)]
   left
   rw [frame60]
   go_simp
   refine metK (hK.out (.slice (some ⟨w'.heap.size, 0, none⟩) 1 1) _ ((Below.refl _ _).alloc (Nat.le_refl _) _) (fun d hd => by cases hd; exact ints_new w' [q0] 3 (by simp))) ?_
   simp [frame60, Act.put, *]
  ·obtain rfl := Option.some.inj ho
   have e28 : Ints w' (X 28) [q0] := hI 28 (by kernel_rfl)
   have E28 := hide e28
   clear e28
   unfold wpOp
   simp only [ho]
   rw [if_pos (by rfl)]
   left
   rw [frame60]
   go_simp
   refine (within_any [q0] 1 10000 16 _ w' E28.out).mono ?_
   rintro e w9 ⟨u, rfl, hA, E9⟩
   refine metK (hK.out u _ E9 (fun d hd => by cases hd; exact hA)) ?_
   simp [frame60, Act.put, *]
  ·obtain rfl := Option.some.inj ho
   have e5 : X 5 = _ := hI 5 (by kernel_rfl)
   unfold wpOp
   simp only [ho]
   rw [if_pos (by rfl)]
   left
   rw [frame60]
   go_simp
   refine metK (hK.out (.pointer (some ⟨w.heap.size + 1, 1, none⟩)) _ (Below.refl _ _) (fun d hd => by cases hd; exact rfl)) ?_
   simp [frame60, Act.put, *]
  ·obtain rfl := Option.some.inj ho
   have e30 : X 30 = _ := hI 30 (by kernel_rfl)
   have c := HCC.out _ hE 1 _ rfl
   unfold wpOp
   simp only [ho]
   rw [if_pos (by rfl)]
   left
   rw [frame60]
   go_simp
   refine metK (hK.out (.int .i64 q1) _ (Below.refl _ _) (fun d hd => by cases hd; exact rfl)) ?_
   simp [frame60, Act.put, *]
  ·obtain rfl := Option.some.inj ho
   have e31 : X 31 = _ := hI 31 (by kernel_rfl)
   unfold wpOp
   simp only [ho]
   rw [if_pos (by rfl)]
   left
   rw [frame60]
   go_simp
   refine metK (hK.out (.slice (some ⟨w'.heap.size, 0, none⟩) 1 1) _ ((Below.refl _ _).alloc (Nat.le_refl _) _) (fun d hd => by cases hd; exact ints_new w' [q1] 3 (by simp))) ?_
   simp [frame60, Act.put, *]
  ·obtain rfl := Option.some.inj ho
   have e32 : Ints w' (X 32) [q1] := hI 32 (by kernel_rfl)
   have E32 := hide e32
   clear e32
   unfold wpOp
   simp only [ho]
   rw [if_pos (by rfl)]
   left
   rw [frame60]
   go_simp
   refine (within_any [q1] 1 8 16 _ w' E32.out).mono ?_
   rintro e w9 ⟨u, rfl, hA, E9⟩
   refine metK (hK.out u _ E9 (fun d hd => by cases hd; exact hA)) ?_
   simp [frame60, Act.put, *]
  ·obtain rfl := Option.some.inj ho
   have e5 : X 5 = _ := hI 5 (by kernel_rfl)
   unfold wpOp
   simp only [ho]
   rw [if_pos (by rfl)]
   left
   rw [frame60]
   go_simp
   refine metK (hK.out (.pointer (some ⟨w.heap.size + 1, 2, none⟩)) _ (Below.refl _ _) (fun d hd => by cases hd; exact rfl)) ?_
   simp [frame60, Act.put, *]
  ·obtain rfl := Option.some.inj ho
   have e34 : X 34 = _ := hI 34 (by kernel_rfl)
   have c := HCC.out _ hE 2 _ rfl
   unfold wpOp
   simp only [ho]
   rw [if_pos (by rfl)]
   left
   rw [frame60]
   go_simp
   refine metK (hK.out (.int .i64 q2) _ (Below.refl _ _) (fun d hd => by cases hd; exact rfl)) ?_
   simp [frame60, Act.put, *]
  ·obtain rfl := Option.some.inj ho
   have e5 : X 5 = _ := hI 5 (by kernel_rfl)
   unfold wpOp
   simp only [ho]
   rw [if_pos (by rfl)]
   left
   rw [frame60]
   go_simp
   refine metK (hK.out (.pointer (some ⟨w.heap.size + 1, 3, none⟩)) _ (Below.refl _ _) (fun d hd => by cases hd; exact rfl)) ?_
   simp [frame60, Act.put, *]
  ·obtain rfl := Option.some.inj ho
   have e36 : X 36 = _ := hI 36 (by kernel_rfl)
   have c := HCC.out _ hE 3 _ rfl
   unfold wpOp
   simp only [ho]
   rw [if_pos (by rfl)]
   left
   rw [frame60]
   go_simp
   refine metK (hK.out (.int .i64 q3) _ (Below.refl _ _) (fun d hd => by cases hd; exact rfl)) ?_
   simp [frame60, Act.put, *]
  ·obtain rfl := Option.some.inj ho
   have e35 : X 35 = _ := hI 35 (by kernel_rfl)
   have e37 : X 37 = _ := hI 37 (by kernel_rfl)
   unfold wpOp
   simp only [ho]
   rw [if_pos (by rfl)]
   left
   rw [frame60]
   go_simp
   refine metK (hK.out (.slice (some ⟨w'.heap.size, 0, none⟩) 2 2) _ ((Below.refl _ _).alloc (Nat.le_refl _) _) (fun d hd => by cases hd; exact ints_new w' [q2, q3] 3 (by simp))) ?_
   simp [frame60, Act.put, *]
  ·obtain rfl := Option.some.inj ho
   have e38 : Ints w' (X 38) [q2, q3] := hI 38 (by kernel_rfl)
   have E38 := hide e38
   clear e38
   unfold wpOp
   simp only [ho]
   rw [if_pos (by rfl)]
   left
   rw [frame60]
   go_simp
   refine (within_any [q2, q3] 0 10000 16 _ w' E38.out).mono ?_
   rintro e w9 ⟨u, rfl, hA, E9⟩
   refine metK (hK.out u _ E9 (fun d hd => by cases hd; exact hA)) ?_
   simp [frame60, Act.put, *]
  ·obtain rfl := Option.some.inj ho
   have e5 : X 5 = _ := hI 5 (by kernel_rfl)
   unfold wpOp
   simp only [ho]
   rw [if_pos (by rfl)]
   left
   rw [frame60]
   go_simp
   refine metK (hK.out (.pointer (some ⟨w.heap.size + 1, 4, none⟩)) _ (Below.refl _ _) (fun d hd => by cases hd; exact rfl)) ?_
   simp [frame60, Act.put, *]
  ·obtain rfl := Option.some.inj ho
   have e40 : X 40 = _ := hI 40 (by kernel_rfl)
   unfold wpOp
   simp only [ho]
   rw [if_pos (by rfl)]
   left
   rw [frame60]
   go_simp
   refine metK (hK.out (.pointer (some ⟨w.heap.size + 1, 4, none⟩)) _ (Below.refl _ _) (fun d hd => by cases hd; exact rfl)) ?_
   simp [frame60, Act.put, *]
  ·obtain rfl := Option.some.inj ho
   have e41 : X 41 = _ := hI 41 (by kernel_rfl)
   have c := HCC.out _ hE 4 _ rfl
   unfold wpOp
   simp only [ho]
   rw [if_pos (by rfl)]
   left
   rw [frame60]
   go_simp
   refine metK (hK.out (.int .i64 q4) _ (Below.refl _ _) (fun d hd => by cases hd; exact rfl)) ?_
   simp [frame60, Act.put, *]
  ·obtain rfl := Option.some.inj ho
   have e5 : X 5 = _ := hI 5 (by kernel_rfl)
   unfold wpOp
   simp only [ho]
   rw [if_pos (by rfl)]
   left
   rw [frame60]
   go_simp
   refine metK (hK.out (.pointer (some ⟨w.heap.size + 1, 4, none⟩)) _ (Below.refl _ _) (fun d hd => by cases hd; exact rfl)) ?_
   simp [frame60, Act.put, *]
  ·obtain rfl := Option.some.inj ho
   have e43 : X 43 = _ := hI 43 (by kernel_rfl)
   unfold wpOp
   simp only [ho]
   rw [if_pos (by rfl)]
   left
   rw [frame60]
   go_simp
   refine metK (hK.out (.pointer (some ⟨w.heap.size + 1, 6, none⟩)) _ (Below.refl _ _) (fun d hd => by cases hd; exact rfl)) ?_
   simp [frame60, Act.put, *]
  ·obtain rfl := Option.some.inj ho
   have e44 : X 44 = _ := hI 44 (by kernel_rfl)
   have c := HCC.out _ hE 6 _ rfl
   unfold wpOp
   simp only [ho]
   rw [if_pos (by rfl)]
   left
   rw [frame60]
   go_simp
   refine metK (hK.out (.int .i64 q6) _ (Below.refl _ _) (fun d hd => by cases hd; exact rfl)) ?_
   simp [frame60, Act.put, *]
  ·obtain rfl := Option.some.inj ho
   have e42 : X 42 = _ := hI 42 (by kernel_rfl)
   have e45 : X 45 = _ := hI 45 (by kernel_rfl)
   unfold wpOp
   simp only [ho]
   rw [if_pos (by rfl)]
   left
   rw [frame60]
   go_simp
   refine metK (hK.out (.slice (some ⟨w'.heap.size, 0, none⟩) 2 2) _ ((Below.refl _ _).alloc (Nat.le_refl _) _) (fun d hd => by cases hd; exact ints_new w' [q4, q6] 3 (by simp))) ?_
   simp [frame60, Act.put, *]
  ·obtain rfl := Option.some.inj ho
   have e46 : Ints w' (X 46) [q4, q6] := hI 46 (by kernel_rfl)
   have E46 := hide e46
   clear e46
   unfold wpOp
   simp only [ho]
   rw [if_pos (by rfl)]
   left
   rw [frame60]
   go_simp
   refine (within_any [q4, q6] 0 100 16 _ w' E46.out).mono ?_
   rintro e w9 ⟨u, rfl, hA, E9⟩
   refine metK (hK.out u _ E9 (fun d hd => by cases hd; exact hA)) ?_
   simp [frame60, Act.put, *]
  ·obtain rfl := Option.some.inj ho
   have e5 : X 5 = _ := hI 5 (by kernel_rfl)
   unfold wpOp
   simp only [ho]
   rw [if_pos (by rfl)]
   left
   rw [frame60]
   go_simp
   refine metK (hK.out (.pointer (some ⟨w.heap.size + 1, 4, none⟩)) _ (Below.refl _ _) (fun d hd => by cases hd; exact rfl)) ?_
   simp [frame60, Act.put, *]
  ·obtain rfl := Option.some.inj ho
   have e48 : X 48 = _ := hI 48 (by kernel_rfl)
   unfold wpOp
   simp only [ho]
   rw [if_pos (by rfl)]
   left
   rw [frame60]
   go_simp
   refine metK (hK.out (.pointer (some ⟨w.heap.size + 1, 5, none⟩)) _ (Below.refl _ _) (fun d hd => by cases hd; exact rfl)) ?_
   simp [frame60, Act.put, *]
  ·obtain rfl := Option.some.inj ho
   have e49 : X 49 = _ := hI 49 (by kernel_rfl)
   have c := HCC.out _ hE 5 _ rfl
   unfold wpOp
   simp only [ho]
   rw [if_pos (by rfl)]
   left
   rw [frame60]
   go_simp
   refine metK (hK.out (.int .i64 q5) _ (Below.refl _ _) (fun d hd => by cases hd; exact rfl)) ?_
   simp [frame60, Act.put, *]
  ·obtain rfl := Option.some.inj ho
   have e50 : X 50 = _ := hI 50 (by kernel_rfl)
   unfold wpOp
   simp only [ho]
   rw [if_pos (by rfl)]
   left
   rw [frame60]
   go_simp
   refine metK (hK.out (.slice (some ⟨w'.heap.size, 0, none⟩) 1 1) _ ((Below.refl _ _).alloc (Nat.le_refl _) _) (fun d hd => by cases hd; exact ints_new w' [q5] 3 (by simp))) ?_
   simp [frame60, Act.put, *]
  ·obtain rfl := Option.some.inj ho
   have e51 : Ints w' (X 51) [q5] := hI 51 (by kernel_rfl)
   have E51 := hide e51
   clear e51
   unfold wpOp
   simp only [ho]
   rw [if_pos (by rfl)]
   left
   rw [frame60]
   go_simp
   refine (within_any [q5] 1 100 16 _ w' E51.out).mono ?_
   rintro e w9 ⟨u, rfl, hA, E9⟩
   refine metK (hK.out u _ E9 (fun d hd => by cases hd; exact hA)) ?_
   simp [frame60, Act.put, *]
  ·obtain rfl := Option.some.inj ho
   have e1 : X 1 = _ := hI 1 (by kernel_rfl)
   unfold wpOp
   simp only [ho]
   rw [if_pos (by rfl)]
   left
   rw [frame60]
   go_simp
   refine metK (hK.out (.int .i64 rates) _ (Below.refl _ _) (fun d hd => by cases hd; exact rfl)) ?_
   simp [frame60, Act.put, *]
  ·obtain rfl := Option.some.inj ho
   have e2 : X 2 = _ := hI 2 (by kernel_rfl)
   unfold wpOp
   simp only [ho]
   rw [if_pos (by rfl)]
   left
   rw [frame60]
   go_simp
   refine metK (hK.out (.pointer (some ⟨w.heap.size, 18, none⟩)) _ (Below.refl _ _) (fun d hd => by cases hd; exact rfl)) ?_
   simp [frame60, Act.put, *]
  ·obtain rfl := Option.some.inj ho
   have e54 : X 54 = _ := hI 54 (by kernel_rfl)
   have c := HCB.out _ hE 18 _ rfl
   unfold wpOp
   simp only [ho]
   rw [if_pos (by rfl)]
   left
   rw [frame60]
   go_simp
   refine metK (hK.out (.int .i64 rate) _ (Below.refl _ _) (fun d hd => by cases hd; exact rfl)) ?_
   simp [frame60, Act.put, *]
  ·obtain rfl := Option.some.inj ho
   have e55 : X 55 = _ := hI 55 (by kernel_rfl)
   unfold wpOp
   simp only [ho]
   rw [if_pos (by rfl)]
   left
   rw [frame60]
   go_simp
   refine metK (hK.out (.slice (some ⟨w'.heap.size, 0, none⟩) 1 1) _ ((Below.refl _ _).alloc (Nat.le_refl _) _) (fun d hd => by cases hd; exact ints_new w' [rate] 3 (by simp))) ?_
   simp [frame60, Act.put, *]
  ·obtain rfl := Option.some.inj ho
   have e53 : X 53 = _ := hI 53 (by kernel_rfl)
   have e56 : Ints w' (X 56) [rate] := hI 56 (by kernel_rfl)
   have E56 := hide e56
   clear e56
   unfold wpOp
   simp only [ho]
   rw [if_pos (by rfl)]
   left
   rw [frame60]
   go_simp
   refine (within_any [rate] 0 rates 15 _ w' E56.out).mono ?_
   rintro e w9 ⟨u, rfl, hA, E9⟩
   refine metK (hK.out u _ E9 (fun d hd => by cases hd; exact hA)) ?_
   simp [frame60, Act.put, *]
  ·obtain rfl := Option.some.inj ho
   obtain ⟨k8, c8, e8, y, z⟩ := (hI 8 (by kernel_rfl) : Asks w' (X 8) (m))
   have A8 := hide (⟨k8, c8, rfl, y, z⟩ : Asks w' (.func (.func k8) #[] c8) (m))
   clear y z
   obtain ⟨k9, c9, e9, y, z⟩ := (hI 9 (by kernel_rfl) : Asks w' (X 9) (p))
   have A9 := hide (⟨k9, c9, rfl, y, z⟩ : Asks w' (.func (.func k9) #[] c9) (p))
   clear y z
   obtain ⟨k13, c13, e13, y, z⟩ := (hI 13 (by kernel_rfl) : Asks w' (X 13) (wchk 0 10 13 [mi]))
   have A13 := hide (⟨k13, c13, rfl, y, z⟩ : Asks w' (.func (.func k13) #[] c13) (wchk 0 10 13 [mi]))
   clear y z
   obtain ⟨k24, c24, e24, y, z⟩ := (hI 24 (by kernel_rfl) : Asks w' (X 24) (wchk 0 10000 16 [ab, de, ti]))
   have A24 := hide (⟨k24, c24, rfl, y, z⟩ : Asks w' (.func (.func k24) #[] c24) (wchk 0 10000 16 [ab, de, ti]))
   clear y z
   obtain ⟨k25, c25, e25, y, z⟩ := (hI 25 (by kernel_rfl) : Asks w' (X 25) (x))
   have A25 := hide (⟨k25, c25, rfl, y, z⟩ : Asks w' (.func (.func k25) #[] c25) (x))
   clear y z
   obtain ⟨k29, c29, e29, y, z⟩ := (hI 29 (by kernel_rfl) : Asks w' (X 29) (wchk 1 10000 16 [q0]))
   have A29 := hide (⟨k29, c29, rfl, y, z⟩ : Asks w' (.func (.func k29) #[] c29) (wchk 1 10000 16 [q0]))
   clear y z
   obtain ⟨k33, c33, e33, y, z⟩ := (hI 33 (by kernel_rfl) : Asks w' (X 33) (wchk 1 8 16 [q1]))
   have A33 := hide (⟨k33, c33, rfl, y, z⟩ : Asks w' (.func (.func k33) #[] c33) (wchk 1 8 16 [q1]))
   clear y z
   obtain ⟨k39, c39, e39, y, z⟩ := (hI 39 (by kernel_rfl) : Asks w' (X 39) (wchk 0 10000 16 [q2, q3]))
   have A39 := hide (⟨k39, c39, rfl, y, z⟩ : Asks w' (.func (.func k39) #[] c39) (wchk 0 10000 16 [q2, q3]))
   clear y z
   obtain ⟨k47, c47, e47, y, z⟩ := (hI 47 (by kernel_rfl) : Asks w' (X 47) (wchk 0 100 16 [q4, q6]))
   have A47 := hide (⟨k47, c47, rfl, y, z⟩ : Asks w' (.func (.func k47) #[] c47) (wchk 0 100 16 [q4, q6]))
   clear y z
   obtain ⟨k52, c52, e52, y, z⟩ := (hI 52 (by kernel_rfl) : Asks w' (X 52) (wchk 1 100 16 [q5]))
   have A52 := hide (⟨k52, c52, rfl, y, z⟩ : Asks w' (.func (.func k52) #[] c52) (wchk 1 100 16 [q5]))
   clear y z
   obtain ⟨k57, c57, e57, y, z⟩ := (hI 57 (by kernel_rfl) : Asks w' (X 57) (wchk 0 rates 15 [rate]))
   have A57 := hide (⟨k57, c57, rfl, y, z⟩ : Asks w' (.func (.func k57) #[] c57) (wchk 0 rates 15 [rate]))
   clear y z
   have hx : ∀ (T : TypeId) (j : Nat) (u : Value), ([.func (.func k8) #[] c8, .func (.func k9) #[] c9, .func (.func k13) #[] c13, .func (.func k24) #[] c24, .func (.func k25) #[] c25, .func (.func k29) #[] c29, .func (.func k33) #[] c33, .func (.func k39) #[] c39, .func (.func k47) #[] c47, .func (.func k52) #[] c52, .func (.func k57) #[] c57] : List Value)[j]? = some u → (w'.alloc (.cells #[.func (.func k8) #[] c8, .func (.func k9) #[] c9, .func (.func k13) #[] c13, .func (.func k24) #[] c24, .func (.func k25) #[] c25, .func (.func k29) #[] c29, .func (.func k33) #[] c33, .func (.func k39) #[] c39, .func (.func k47) #[] c47, .func (.func k52) #[] c52, .func (.func k57) #[] c57] T)).cell? ⟨w'.heap.size, j, none⟩ = some u := fun T j u hu => by
    have := cells_new w' [.func (.func k8) #[] c8, .func (.func k9) #[] c9, .func (.func k13) #[] c13, .func (.func k24) #[] c24, .func (.func k25) #[] c25, .func (.func k29) #[] c29, .func (.func k33) #[] c33, .func (.func k39) #[] c39, .func (.func k47) #[] c47, .func (.func k52) #[] c52, .func (.func k57) #[] c57] T j u hu
    rw [add_cell] at this
    exact this
   have HX := hide hx
   clear hx
   have hl : ∀ (T : TypeId) (i : Nat) (hi : i < (askZ mi ab de ti q0 q1 q2 q3 q4 q5 q6 rate rates m p x).length), ∃ b off u, (some (⟨w'.heap.size, 0, none⟩ : Addr)) = some ⟨b, off, none⟩ ∧ b < (w'.alloc (.cells #[.func (.func k8) #[] c8, .func (.func k9) #[] c9, .func (.func k13) #[] c13, .func (.func k24) #[] c24, .func (.func k25) #[] c25, .func (.func k29) #[] c29, .func (.func k33) #[] c33, .func (.func k39) #[] c39, .func (.func k47) #[] c47, .func (.func k52) #[] c52, .func (.func k57) #[] c57] T)).heap.size ∧ (w'.alloc (.cells #[.func (.func k8) #[] c8, .func (.func k9) #[] c9, .func (.func k13) #[] c13, .func (.func k24) #[] c24, .func (.func k25) #[] c25, .func (.func k29) #[] c29, .func (.func k33) #[] c33, .func (.func k39) #[] c39, .func (.func k47) #[] c47, .func (.func k52) #[] c52, .func (.func k57) #[] c57] T)).cell? ⟨b, off + i, none⟩ = some u ∧ Asks (w'.alloc (.cells #[.func (.func k8) #[] c8, .func (.func k9) #[] c9, .func (.func k13) #[] c13, .func (.func k24) #[] c24, .func (.func k25) #[] c25, .func (.func k29) #[] c29, .func (.func k33) #[] c33, .func (.func k39) #[] c39, .func (.func k47) #[] c47, .func (.func k52) #[] c52, .func (.func k57) #[] c57] T)) u (askZ mi ab de ti q0 q1 q2 q3 q4 q5 q6 rate rates m p x)[i] := by
    intro T i hi
    have hj : i = 0 ∨ i = 1 ∨ i = 2 ∨ i = 3 ∨ i = 4 ∨ i = 5 ∨ i = 6 ∨ i = 7 ∨ i = 8 ∨ i = 9 ∨ i = 10 := by
     have h : i < 11 := hi
     omega
    rcases hj with rfl | rfl | rfl | rfl | rfl | rfl | rfl | rfl | rfl | rfl | rfl
    ·exact ⟨w'.heap.size, 0, _, rfl, by simp, by rw [Nat.zero_add]; exact HX.out _ 0 _ rfl, Asks.ext A8.out ((Below.refl _ _).alloc (Nat.le_refl _) _)⟩
    ·exact ⟨w'.heap.size, 0, _, rfl, by simp, by rw [Nat.zero_add]; exact HX.out _ 1 _ rfl, Asks.ext A9.out ((Below.refl _ _).alloc (Nat.le_refl _) _)⟩
    ·exact ⟨w'.heap.size, 0, _, rfl, by simp, by rw [Nat.zero_add]; exact HX.out _ 2 _ rfl, Asks.ext A13.out ((Below.refl _ _).alloc (Nat.le_refl _) _)⟩
    ·exact ⟨w'.heap.size, 0, _, rfl, by simp, by rw [Nat.zero_add]; exact HX.out _ 3 _ rfl, Asks.ext A24.out ((Below.refl _ _).alloc (Nat.le_refl _) _)⟩
    ·exact ⟨w'.heap.size, 0, _, rfl, by simp, by rw [Nat.zero_add]; exact HX.out _ 4 _ rfl, Asks.ext A25.out ((Below.refl _ _).alloc (Nat.le_refl _) _)⟩
    ·exact ⟨w'.heap.size, 0, _, rfl, by simp, by rw [Nat.zero_add]; exact HX.out _ 5 _ rfl, Asks.ext A29.out ((Below.refl _ _).alloc (Nat.le_refl _) _)⟩
    ·exact ⟨w'.heap.size, 0, _, rfl, by simp, by rw [Nat.zero_add]; exact HX.out _ 6 _ rfl, Asks.ext A33.out ((Below.refl _ _).alloc (Nat.le_refl _) _)⟩
    ·exact ⟨w'.heap.size, 0, _, rfl, by simp, by rw [Nat.zero_add]; exact HX.out _ 7 _ rfl, Asks.ext A39.out ((Below.refl _ _).alloc (Nat.le_refl _) _)⟩
    ·exact ⟨w'.heap.size, 0, _, rfl, by simp, by rw [Nat.zero_add]; exact HX.out _ 8 _ rfl, Asks.ext A47.out ((Below.refl _ _).alloc (Nat.le_refl _) _)⟩
    ·exact ⟨w'.heap.size, 0, _, rfl, by simp, by rw [Nat.zero_add]; exact HX.out _ 9 _ rfl, Asks.ext A52.out ((Below.refl _ _).alloc (Nat.le_refl _) _)⟩
    ·exact ⟨w'.heap.size, 0, _, rfl, by simp, by rw [Nat.zero_add]; exact HX.out _ 10 _ rfl, Asks.ext A57.out ((Below.refl _ _).alloc (Nat.le_refl _) _)⟩
   have HL := hide hl
   clear hl
   unfold wpOp
   simp only [ho]
   rw [if_pos (by rfl)]
   left
   rw [frame60]
   go_simp
   refine metK (hK.out (.slice (some ⟨w'.heap.size, 0, none⟩) 11 11) _ ((Below.refl _ _).alloc (Nat.le_refl _) _) (fun d hd => by
    cases hd
    exact askLaw.mk (HL.out _))) ?_
   simp [frame60, Act.put, *]
  ·obtain rfl := Option.some.inj ho
   obtain ⟨aa, cc, e58, hz⟩ := hI 58 (by kernel_rfl)
   have HZ := hide hz
   clear hz
   unfold wpOp
   simp only [ho]
   rw [if_pos (by rfl)]
   left
   rw [frame60]
   go_simp
   refine (first_any (askZ mi ab de ti q0 q1 q2 q3 q4 q5 q6 rate rates m p x) aa 11 cc w' rfl (by omega) HZ.out).mono ?_
   rintro e w9 ⟨rfl, E9⟩
   refine metK (hK.out (.int .i64 (((askZ mi ab de ti q0 q1 q2 q3 q4 q5 q6 rate rates m p x).find? (· != 0)).getD 0)) _ E9 (fun d hd => by cases hd; exact rfl)) ?_
   simp [frame60, Act.put, *]
  ·obtain rfl := Option.some.inj ho
   have e59 : X 59 = _ := hI 59 (by kernel_rfl)
   unfold wpOp
   simp only [ho]
   rw [if_pos (by rfl)]
   left
   rw [frame60]
   go_simp
   refine metK (hK.out (.int .i64 (((askZ mi ab de ti q0 q1 q2 q3 q4 q5 q6 rate rates m p x).find? (· != 0)).getD 0)) _ (Below.refl _ _) (fun d hd => by cases hd; exact rfl)) ?_
   simp [frame60, Act.put, *]
 ·intro X w' hE hI
  have e4 : X 4 = _ := hI 4 (by omega)
  rw [frame60]
  go_wp2
  go_ret
  exact ⟨by rw [HRC.out]; exact (by simp [*]), HE0.out.trans hE⟩
end Go.Proofs.YtceaeiaoanhlnaaDoor
namespace Go.Proofs.YtceaeiaoanhlnaaDoor
open Go.ChangeShapes Go.WideShapes Go.ChangeAt Go.RowKit Go.Lib Go.Shelf
def keyR (r : RuleD) : Key := rk3 r.path r.ex r.H.length
theorem phC0 {W w' : World} {z : Int} {vs : List Value} (hn : vs.length ≤ 0) (h : PhC W z vs w') : Ext W w' := by
 rcases vs with _ | ⟨u, vs⟩
 ·exact h
 ·simp at hn
theorem frame23 (x : Nat → Value) : frameOf 23 x = #[x 0, x 1, x 2, x 3, x 4, x 5, x 6, x 7, x 8, x 9, x 10, x 11, x 12, x 13, x 14, x 15, x 16, x 17, x 18, x 19, x 20, x 21, x 22] := rfl
set_option maxRecDepth 100000 in
set_option maxHeartbeats 8000000 in
theorem rowcmp_any (W : World) (b0 b6 gr capr n : Nat) (Rs : List RuleD) (hn : Rs.length = n) (_hn20 : n ≤ 1000) (h6 : W.cell? ⟨b6, 0, none⟩ = some (.pointer (some ⟨b0, 0, none⟩))) (h0 : W.cell? ⟨b0, 0, none⟩ = some (.slice (some ⟨gr, 0, none⟩) n capr))
  (hr : ∀ k (hk : k < Rs.length) j u, (encR Rs[k])[j]? = some u → W.cell? ⟨gr, k * 19 + j, none⟩ = some u) (hsh : ∀ r ∈ Rs, ∃ x y, r.hv = .slice x r.H.length y) (ka kb : Nat) (hka : ka < n) (hkb : kb < n) :
  Calls Tryd.prog 48 #[.int .i64 ka, .int .i64 kb, .pointer (some ⟨b6, 0, none⟩)] W fun e w' => e = .returned (.int .i64 (cfK (Rs.map keyR) ka kb)) ∧ Ext W w' := by
 have hb6 := World.block_lt_of_cell? W _ h6
 have hb0 := World.block_lt_of_cell? W _ h0
 have hgr := World.block_lt_of_cell? W _ (hr ka (by omega) 0 _ rfl)
 have hk1 : Rs[ka]'(by omega) ∈ Rs := List.getElem_mem _
 have hk2 : Rs[kb]'(by omega) ∈ Rs := List.getElem_mem _
 obtain ⟨a1, c1, hv1⟩ := hsh _ hk1
 obtain ⟨a2, c2, hv2⟩ := hsh _ hk2
 have hA := fun j u => hr ka (by omega) j u
 have hB := fun j u => hr kb (by omega) j u
 have hz : cmp3 (keyR (Rs[ka]'(by omega))) (keyR (Rs[kb]'(by omega))) = cfK (Rs.map keyR) ka kb := by
  unfold cfK
  simp [List.getD_eq_getElem?_getD, List.getElem?_eq_getElem (show ka < Rs.length by omega), List.getElem?_eq_getElem (show kb < Rs.length by omega)]
 obtain ⟨r1, hr1⟩ : ∃ r, Rs[ka]'(by omega) = r := ⟨_, rfl⟩
 obtain ⟨r2, hr2⟩ : ∃ r, Rs[kb]'(by omega) = r := ⟨_, rfl⟩
 rw [hr1] at hv1 hA hz
 rw [hr2] at hv2 hB hz
 obtain ⟨z, hzz⟩ : ∃ z, cfK (Rs.map keyR) ka kb = z := ⟨_, rfl⟩
 rw [hzz] at hz ⊢
 have hm : ∀ w', Ext W w' → Calls Tryd.prog 49 #[.agg #[.string r1.path, .bool r1.ex, .slice a1 r1.H.length c1], .agg #[.string r2.path, .bool r2.ex, .slice a2 r2.H.length c2]] w' fun e w'' => e = .returned (.int .i64 z) ∧ Ext w' w'' := fun w' _ => by
  rw [← hz]
  exact cmp_any r1.path r2.path r1.ex r2.ex a1 a2 r1.H.length c1 r2.H.length c2 w'
 have hA3 : ∀ w', Ext W w' → w'.cell? ⟨gr, ka * 19, none⟩ = some (.string r1.path) ∧ w'.cell? ⟨gr, ka * 19 + 1, none⟩ = some (.bool r1.ex) ∧ w'.cell? ⟨gr, ka * 19 + 2, none⟩ = some (.slice a1 r1.H.length c1) := fun w' h => by
  rw [← hv1]
  exact ⟨(h.cell (p := ⟨gr, ka * 19, none⟩) hgr).trans (hA 0 _ rfl), (h.cell (p := ⟨gr, ka * 19 + 1, none⟩) hgr).trans (hA 1 _ rfl), (h.cell (p := ⟨gr, ka * 19 + 2, none⟩) hgr).trans (hA 2 _ rfl)⟩
 have hB3 : ∀ w', Ext W w' → w'.cell? ⟨gr, kb * 19, none⟩ = some (.string r2.path) ∧ w'.cell? ⟨gr, kb * 19 + 1, none⟩ = some (.bool r2.ex) ∧ w'.cell? ⟨gr, kb * 19 + 2, none⟩ = some (.slice a2 r2.H.length c2) := fun w' h => by
  rw [← hv2]
  exact ⟨(h.cell (p := ⟨gr, kb * 19, none⟩) hgr).trans (hB 0 _ rfl), (h.cell (p := ⟨gr, kb * 19 + 1, none⟩) hgr).trans (hB 1 _ rfl), (h.cell (p := ⟨gr, kb * 19 + 2, none⟩) hgr).trans (hB 2 _ rfl)⟩
 have H6 := hide (fun w' (h : Ext W w') => (h.cell (p := ⟨b6, 0, none⟩) hb6).trans h6)
 have H0 := hide (fun w' (h : Ext W w') => (h.cell (p := ⟨b0, 0, none⟩) hb0).trans h0)
 have HM := hide hm
 have HA := hide hA3
 have HB := hide hB3
 clear hm hA3 hB3 h6 h0 hb6 hb0 hgr hk1 hk2 hA hB hz hzz hv1 hv2 hr1 hr2 hr hsh hn
 generalize r1.path = p1 at *
 generalize r1.ex = x1 at *
 generalize r1.H.length = n1 at *
 generalize r2.path = p2 at *
 generalize r2.ex = x2 at *
 generalize r2.H.length = n2 at *
 have hkaz : (ka : Int) < n := by omega
 have hkbz : (kb : Int) < n := by omega
 go_enter Tryd.func48, Tryd.ntmps48
 go_upto_region 1 with (fail)
 refine wp_region_ph 23 [16] (PhC W z) (fun t v => match t with | 0 => v = .int .i64 ka | 1 => v = .int .i64 kb | 2 => v = .pointer (some ⟨b6, 0, none⟩) | 5 => v = .int .i64 z | 6 => v = .pointer (some ⟨b0, 0, none⟩) | 7 => v = .pointer (some ⟨b0, 0, none⟩) | 8 => v = .pointer (some ⟨b0, 0, none⟩) | 9 => v = .slice (some ⟨gr, 0, none⟩) n capr | 10 => v = .int .i64 ka | 11 => v = .pointer (some ⟨gr, ka * 19, none⟩) | 12 => v = .pointer (some ⟨gr, ka * 19, none⟩) | 13 => v = .agg #[.string p1, .bool x1, .slice a1 n1 c1] | 14 => v = .pointer (some ⟨b0, 0, none⟩) | 15 => v = .pointer (some ⟨b0, 0, none⟩) | 16 => v = .pointer (some ⟨b0, 0, none⟩) | 17 => v = .slice (some ⟨gr, 0, none⟩) n capr | 18 => v = .int .i64 kb | 19 => v = .pointer (some ⟨gr, kb * 19, none⟩) | 20 => v = .pointer (some ⟨gr, kb * 19, none⟩) | 21 => v = .agg #[.string p2, .bool x2, .slice a2 n2 c2] | _ => True) (by kernel_rfl) rfl (by kernel_rfl) (by kernel_rfl) (by kernel_rfl) ?_ ?_ ?_ ?_ ?_
 ·exact (Below.refl _ _).drew
 ·intro t ht hno
  have hi : t = 0 ∨ t = 1 ∨ t = 2 ∨ t = 3 ∨ t = 4 ∨ t = 5 ∨ t = 6 ∨ t = 7 ∨ t = 8 ∨ t = 9 ∨ t = 10 ∨ t = 11 ∨ t = 12 ∨ t = 13 ∨ t = 14 ∨ t = 15 ∨ t = 16 ∨ t = 17 ∨ t = 18 ∨ t = 19 ∨ t = 20 ∨ t = 21 ∨ t = 22 := by omega
  rcases hi with rfl | rfl | rfl | rfl | rfl | rfl | rfl | rfl | rfl | rfl | rfl | rfl | rfl | rfl | rfl | rfl | rfl | rfl | rfl | rfl | rfl | rfl | rfl
  all_goals first | exact rfl | exact True.intro | exact absurd (hno.symm.trans (by kernel_rfl) : true = false) (by decide)
 ·intro i o ho hmi vs X w' hpk hph hX hI K hK
  have hin : i < 18 := (Array.getElem?_eq_some_iff.1 ho).1
  have hi : i = 0 ∨ i = 1 ∨ i = 2 ∨ i = 3 ∨ i = 4 ∨ i = 5 ∨ i = 6 ∨ i = 7 ∨ i = 8 ∨ i = 9 ∨ i = 10 ∨ i = 11 ∨ i = 12 ∨ i = 13 ∨ i = 14 ∨ i = 15 ∨ i = 16 ∨ i = 17 := by omega
  rcases hi with rfl | rfl | rfl | rfl | rfl | rfl | rfl | rfl | rfl | rfl | rfl | rfl | rfl | rfl | rfl | rfl | rfl | rfl
  ·obtain rfl := Option.some.inj ho
   have e2 : X 2 = _ := hI 2 (by kernel_rfl)
   have c0 := H6.out w' (phC0 ((hpk 0 (by decide)).2 (by kernel_rfl)) hph)
   unfold wpOp
   simp only [ho]
   rw [if_pos (by rfl)]
   left
   rw [frame23]
   go_simp
   refine metK (hK.out (.pointer (some ⟨b0, 0, none⟩)) (fun d hd => by cases hd; exact rfl)) ?_
   simp [frame23, Act.put, *]
  ·obtain rfl := Option.some.inj ho
   have e6 : X 6 = _ := hI 6 (by kernel_rfl)
   unfold wpOp
   simp only [ho]
   rw [if_pos (by rfl)]
   left
   rw [frame23]
   go_simp
   refine metK (hK.out (.pointer (some ⟨b0, 0, none⟩)) (fun d hd => by cases hd; exact rfl)) ?_
   simp [frame23, Act.put, *]
  ·obtain rfl := Option.some.inj ho
   have e7 : X 7 = _ := hI 7 (by kernel_rfl)
   unfold wpOp
   simp only [ho]
   rw [if_pos (by rfl)]
   left
   rw [frame23]
   go_simp
   refine metK (hK.out (.pointer (some ⟨b0, 0, none⟩)) (fun d hd => by cases hd; exact rfl)) ?_
   simp [frame23, Act.put, *]
  ·obtain rfl := Option.some.inj ho
   have e8 : X 8 = _ := hI 8 (by kernel_rfl)
   have c0 := H0.out w' (phC0 ((hpk 0 (by decide)).2 (by kernel_rfl)) hph)
   unfold wpOp
   simp only [ho]
   rw [if_pos (by rfl)]
   left
   rw [frame23]
   go_simp
   refine metK (hK.out (.slice (some ⟨gr, 0, none⟩) n capr) (fun d hd => by cases hd; exact rfl)) ?_
   simp [frame23, Act.put, *]
  ·obtain rfl := Option.some.inj ho
   have e0 : X 0 = _ := hI 0 (by kernel_rfl)
   unfold wpOp
   simp only [ho]
   rw [if_pos (by rfl)]
   left
   rw [frame23]
   go_simp
   refine metK (hK.out (.int .i64 ka) (fun d hd => by cases hd; exact rfl)) ?_
   simp [frame23, Act.put, *]
  ·obtain rfl := Option.some.inj ho
   have e9 : X 9 = _ := hI 9 (by kernel_rfl)
   have e10 : X 10 = _ := hI 10 (by kernel_rfl)
   unfold wpOp
   simp only [ho]
   rw [if_pos (by rfl)]
   left
   rw [frame23]
   go_simp
   refine metK (hK.out (.pointer (some ⟨gr, ka * 19, none⟩)) (fun d hd => by cases hd; exact rfl)) ?_
   simp [frame23, Act.put, *]
  ·obtain rfl := Option.some.inj ho
   have e11 : X 11 = _ := hI 11 (by kernel_rfl)
   unfold wpOp
   simp only [ho]
   rw [if_pos (by rfl)]
   left
   rw [frame23]
   go_simp
   refine metK (hK.out (.pointer (some ⟨gr, ka * 19, none⟩)) (fun d hd => by cases hd; exact rfl)) ?_
   simp [frame23, Act.put, *]
  ·obtain rfl := Option.some.inj ho
   have e12 : X 12 = _ := hI 12 (by kernel_rfl)
   obtain ⟨d0, d1, d2⟩ := HA.out w' (phC0 ((hpk 0 (by decide)).2 (by kernel_rfl)) hph)
   unfold wpOp
   simp only [ho]
   rw [if_pos (by rfl)]
   left
   rw [frame23]
   go_simp
   refine metK (hK.out (.agg #[.string p1, .bool x1, .slice a1 n1 c1]) (fun d hd => by cases hd; exact rfl)) ?_
   simp [frame23, Act.put, *]
  ·obtain rfl := Option.some.inj ho
   have e2 : X 2 = _ := hI 2 (by kernel_rfl)
   have c0 := H6.out w' (phC0 ((hpk 0 (by decide)).2 (by kernel_rfl)) hph)
   unfold wpOp
   simp only [ho]
   rw [if_pos (by rfl)]
   left
   rw [frame23]
   go_simp
   refine metK (hK.out (.pointer (some ⟨b0, 0, none⟩)) (fun d hd => by cases hd; exact rfl)) ?_
   simp [frame23, Act.put, *]
  ·obtain rfl := Option.some.inj ho
   have e14 : X 14 = _ := hI 14 (by kernel_rfl)
   unfold wpOp
   simp only [ho]
   rw [if_pos (by rfl)]
   left
   rw [frame23]
   go_simp
   refine metK (hK.out (.pointer (some ⟨b0, 0, none⟩)) (fun d hd => by cases hd; exact rfl)) ?_
   simp [frame23, Act.put, *]
  ·obtain rfl := Option.some.inj ho
   have e15 : X 15 = _ := hI 15 (by kernel_rfl)
   unfold wpOp
   simp only [ho]
   rw [if_pos (by rfl)]
   left
   rw [frame23]
   go_simp
   refine metK (hK.out (.pointer (some ⟨b0, 0, none⟩)) (fun d hd => by cases hd; exact rfl)) ?_
   simp [frame23, Act.put, *]
  ·obtain rfl := Option.some.inj ho
   have e16 : X 16 = _ := hI 16 (by kernel_rfl)
   have c0 := H0.out w' (phC0 ((hpk 0 (by decide)).2 (by kernel_rfl)) hph)
   unfold wpOp
   simp only [ho]
   rw [if_pos (by rfl)]
   left
   rw [frame23]
   go_simp
   refine metK (hK.out (.slice (some ⟨gr, 0, none⟩) n capr) (fun d hd => by cases hd; exact rfl)) ?_
   simp [frame23, Act.put, *]
  ·obtain rfl := Option.some.inj ho
   have e1 : X 1 = _ := hI 1 (by kernel_rfl)
   unfold wpOp
   simp only [ho]
   rw [if_pos (by rfl)]
   left
   rw [frame23]
   go_simp
   refine metK (hK.out (.int .i64 kb) (fun d hd => by cases hd; exact rfl)) ?_
   simp [frame23, Act.put, *]
  ·obtain rfl := Option.some.inj ho
   have e17 : X 17 = _ := hI 17 (by kernel_rfl)
   have e18 : X 18 = _ := hI 18 (by kernel_rfl)
   unfold wpOp
   simp only [ho]
   rw [if_pos (by rfl)]
   left
   rw [frame23]
   go_simp
   refine metK (hK.out (.pointer (some ⟨gr, kb * 19, none⟩)) (fun d hd => by cases hd; exact rfl)) ?_
   simp [frame23, Act.put, *]
  ·obtain rfl := Option.some.inj ho
   have e19 : X 19 = _ := hI 19 (by kernel_rfl)
   unfold wpOp
   simp only [ho]
   rw [if_pos (by rfl)]
   left
   rw [frame23]
   go_simp
   refine metK (hK.out (.pointer (some ⟨gr, kb * 19, none⟩)) (fun d hd => by cases hd; exact rfl)) ?_
   simp [frame23, Act.put, *]
  ·obtain rfl := Option.some.inj ho
   have e20 : X 20 = _ := hI 20 (by kernel_rfl)
   obtain ⟨d0, d1, d2⟩ := HB.out w' (phC0 ((hpk 0 (by decide)).2 (by kernel_rfl)) hph)
   unfold wpOp
   simp only [ho]
   rw [if_pos (by rfl)]
   left
   rw [frame23]
   go_simp
   refine metK (hK.out (.agg #[.string p2, .bool x2, .slice a2 n2 c2]) (fun d hd => by cases hd; exact rfl)) ?_
   simp [frame23, Act.put, *]
  ·exact absurd hmi (by decide)
  ·have hl := (hpk 0 (by decide)).1 (by kernel_rfl)
   rcases vs with _ | ⟨v, _ | ⟨v2, vs⟩⟩
   ·simp at hl
   ·obtain ⟨hE1, rfl⟩ := hph
    have e22 : X 22 = .int .i64 z := hX 0 22 (by simp) (by kernel_rfl)
    obtain rfl := Option.some.inj ho
    unfold wpOp
    simp only [ho]
    rw [if_pos (by rfl)]
    left
    rw [frame23]
    go_simp
    refine metK (hK.out (.int .i64 z) (fun d hd => by cases hd; exact rfl)) ?_
    simp [frame23, Act.put, *]
   ·exact hph.elim
 ·intro i o ho hmi vs X w' hqi hql hph hX hI K hK
  rcases vs with _ | ⟨v0, _⟩
  ·obtain rfl : 16 = i := hqi
   obtain rfl := Option.some.inj ho
   have e13 : X 13 = _ := hI 13 (by kernel_rfl)
   have e21 : X 21 = _ := hI 21 (by kernel_rfl)
   unfold wpOp
   simp only [ho]
   rw [if_pos (by rfl)]
   left
   rw [frame23]
   go_simp
   refine (HM.out w' hph).mono ?_
   rintro e w9 ⟨rfl, E9⟩
   refine metK (hK.out (.int .i64 z) w9 ⟨hph.trans E9, rfl⟩) ?_
   simp [frame23, Act.put, *]
  ·simp at hql <;> omega
 ·intro vs X w' hlen hph hX hI
  have e0 : X 0 = _ := hI 0 (by omega) (by kernel_rfl)
  have e1 : X 1 = _ := hI 1 (by omega) (by kernel_rfl)
  have e2 : X 2 = _ := hI 2 (by omega) (by kernel_rfl)
  have e5 : X 5 = _ := hI 5 (by omega) (by kernel_rfl)
  have e6 : X 6 = _ := hI 6 (by omega) (by kernel_rfl)
  have e7 : X 7 = _ := hI 7 (by omega) (by kernel_rfl)
  have e8 : X 8 = _ := hI 8 (by omega) (by kernel_rfl)
  have e9 : X 9 = _ := hI 9 (by omega) (by kernel_rfl)
  have e10 : X 10 = _ := hI 10 (by omega) (by kernel_rfl)
  have e11 : X 11 = _ := hI 11 (by omega) (by kernel_rfl)
  have e12 : X 12 = _ := hI 12 (by omega) (by kernel_rfl)
  have e13 : X 13 = _ := hI 13 (by omega) (by kernel_rfl)
  have e14 : X 14 = _ := hI 14 (by omega) (by kernel_rfl)
  have e15 : X 15 = _ := hI 15 (by omega) (by kernel_rfl)
  have e16 : X 16 = _ := hI 16 (by omega) (by kernel_rfl)
  have e17 : X 17 = _ := hI 17 (by omega) (by kernel_rfl)
  have e18 : X 18 = _ := hI 18 (by omega) (by kernel_rfl)
  have e19 : X 19 = _ := hI 19 (by omega) (by kernel_rfl)
  have e20 : X 20 = _ := hI 20 (by omega) (by kernel_rfl)
  have e21 : X 21 = _ := hI 21 (by omega) (by kernel_rfl)
  rcases vs with _ | ⟨v0, _ | ⟨vz, vs⟩⟩
  ·simp at hlen
  rotate_left
  ·simp at hlen
  have e22 : X 22 = v0 := hX 0 22 (by simp) (by kernel_rfl)
  clear hX hI hlen
  rw [frame23]
  simp only [e0, e1, e2, e5, e6, e7, e8, e9, e10, e11, e12, e13, e14, e15, e16, e17, e18, e19, e20, e21, e22]
  obtain ⟨hE1, -⟩ := hph
  go_wp2
  go_ret
  exact ⟨rfl, hE1⟩

theorem insOuter_inR (lt : Int → Int → Bool) (N a b : Nat) : ∀ (n i : Nat) (d : Array Int), b - i = n → b ≤ d.size → InR N d → (Go.Sort.insOuter lt a b i d).size = d.size ∧ InR N (Go.Sort.insOuter lt a b i d) := by
 intro n
 induction n with
 | zero =>
  intro i d hn _ h
  rw [Go.Sort.insOuter, if_neg (by omega)]
  exact ⟨rfl, h⟩
 | succ n ih =>
  intro i d hn hb h
  have hib : i < b := by omega
  rw [Go.Sort.insOuter, if_pos hib]
  obtain ⟨k1, k2, k3⟩ := insInner_keep lt a i d (by omega)
  have := ih (i + 1) (Go.Sort.insInner lt a i d) (by omega) (by omega) (fun p hp => by
   by_cases hpi : p ≤ i
   ·obtain ⟨r, hr, e⟩ := k3 p hpi
    rw [e]
    exact h r (by omega)
   ·rw [k2 p (by omega)]
    exact h p (by omega))
  exact ⟨by rw [this.1, k1], this.2⟩
theorem isort_inR (lt : Int → Int → Bool) (N : Nat) (d : Array Int) (h : InR N d) : (Go.Sort.insertionSort lt d 0 d.size).size = d.size ∧ InR N (Go.Sort.insertionSort lt d 0 d.size) := insOuter_inR lt N 0 d.size _ 1 d rfl (Nat.le_refl _) h
set_option maxRecDepth 100000 in
set_option maxHeartbeats 4000000 in
/-- slices.stableCmpFunc at up to 20 numbers: an insertion sort -/
theorem stable_any (N blk cap n : Nat) (d : Array Int) (fv : Value) (cf : Int → Int → Int) (w : World) (hN : InR N d) (hC : CmpOk w blk N fv cf) (hR : RowI w blk cap d) (hdn : d.size = n) (hsz : n ≤ 20) :
  Calls Tryd.prog 78 #[.slice (some ⟨blk, 0, none⟩) n cap, .int .i64 n, fv] w fun e w' => e = .returned (.tuple #[]) ∧ RowI w' blk cap (Go.Sort.insertionSort (ltOf cf) d 0 d.size) ∧ Keeps (fun b => b = blk) w w' := by
 have hcall : ∀ (a b : Nat) (dk : Array Int) (X : World), InR N dk → RowI X blk cap dk → Keeps (fun b => b = blk) w X → a ≤ b → b ≤ n → dk.size = n →
   Calls Tryd.prog 102 #[.slice (some ⟨blk, 0, none⟩) n cap, .int .i64 a, .int .i64 b, fv] X fun e w' => e = .returned (.tuple #[]) ∧ RowI w' blk cap (Go.Sort.insertionSort (ltOf cf) dk a b) ∧ Keeps (fun b => b = blk) X w' := fun a b dk X h1 h2 h3 h4 h5 h6 => by
  have := isort_any a b N blk cap dk fv cf w X h1 hC h2 h3 h4 (by omega) (by omega)
  rw [h6] at this
  exact this
 have hsh : ∃ g cb, fv = .func (.func g) #[] cb := by
  obtain ⟨g, cb, h, _⟩ := hC
  exact ⟨g, cb, h⟩
 obtain ⟨g, cb, rfl⟩ := hsh
 have HCALL := hide hcall
 have HN := hide hN
 have HR := hide hR
 have HDN := hide hdn
 clear hcall hC hN hR hdn
 have hz1 : (n : Int) ≤ 20 := by omega
 have hz2 : ¬ (20 : Int) < n := by omega
 go_enter Tryd.func78, Tryd.ntmps78
 go_wp2_with fail
 go_loopw [7, 8] (fun va vb wr => ∃ (dk : Array Int), dk.size = n ∧ InR N dk ∧ RowI wr blk cap dk ∧ Keeps (fun b => b = blk) w wr ∧ ((va = .int .i64 0 ∧ vb = .int .i64 20 ∧ Hid (dk = d)) ∨ (va = .int .i64 20 ∧ vb = .int .i64 40 ∧ n = 20 ∧ Hid (dk = Go.Sort.insertionSort (ltOf cf) d 0 d.size)))) (fun _ b _ => 60 - (intOf b).toNat)
 case atStart => exact ⟨d, HDN.out, HN.out, HR.out, Keeps.refl _ _, .inl ⟨rfl, rfl, rfl⟩⟩
 case round =>
  obtain ⟨dk, hsk, hir, hri, hki, hcase⟩ := hrel
  have HIR := hide hir
  have HRI := hide hri
  have HKI := hide hki
  clear hir hri hki
  rcases hcase with ⟨rfl, rfl, HD⟩ | ⟨rfl, rfl, h20, HD⟩
  ·by_cases h20 : n = 20
   ·have h20z : (20 : Int) ≤ n := by omega
    have hle : 20 ≤ n := by omega
    have H20 := hide h20
    have HSK := hide hsk
    clear h20 hsk
    go_wp2_with fail
    refine (HCALL.out 0 20 dk wr HIR.out HRI.out HKI.out (by omega) hle HSK.out).mono ?_
    rintro e w1 ⟨rfl, h1, h2⟩
    have hin := isort_inR (ltOf cf) N dk HIR.out
    rw [HSK.out, H20.out] at hin
    have H1 := hide h1
    have H2 := hide (HKI.out.trans h2)
    have H3 := hide hin
    clear h1 h2 hin
    go_wp2
    go_roundw
    case rel => exact ⟨_, H3.out.1.trans H20.out.symm, H3.out.2, H1.out, H2.out, .inr ⟨rfl, rfl, H20.out, by rw [HD.out, HDN.out, H20.out]; rfl⟩⟩
    case measure => simp [intOf] <;> omega
   ·have h19 : ¬ (20 : Int) ≤ n := by omega
    go_wp2_with fail
    refine (HCALL.out 0 n dk wr HIR.out HRI.out HKI.out (by omega) (by omega) hsk).mono ?_
    rintro e w1 ⟨rfl, h1, h2⟩
    have H1 := hide h1
    have H2 := hide (HKI.out.trans h2)
    clear h1 h2
    go_wp2_with fail
    go_loopw [6] (fun v6 wr => v6 = .int .i64 20 ∧ wr = w1) (fun _ _ => 0)
    case atStart => exact ⟨rfl, rfl⟩
    case round =>
     obtain ⟨rfl, rfl⟩ := hrel
     go_wp2
     go_end0
     exact ⟨rfl, by rw [HDN.out, ← HD.out]; exact H1.out, H2.out⟩
  ·have h40 : ¬ (40 : Int) ≤ n := by omega
   have hle : 20 ≤ n := by omega
   have H20 := hide h20
   have HSK := hide hsk
   clear h20 hsk
   go_wp2_with fail
   refine (HCALL.out 20 n dk wr HIR.out HRI.out HKI.out hle (Nat.le_refl _) HSK.out).mono ?_
   rintro e w1 ⟨rfl, h1, h2⟩
   have hst : Go.Sort.insertionSort (ltOf cf) dk 20 n = dk := by
    unfold Go.Sort.insertionSort
    rw [Go.Sort.insOuter, if_neg (by omega)]
   rw [hst] at h1
   have H1 := hide h1
   have H2 := hide (HKI.out.trans h2)
   clear h1 h2 hst
   go_wp2_with fail
   go_loopw [6] (fun v6 wr => v6 = .int .i64 20 ∧ wr = w1) (fun _ _ => 0)
   case atStart => exact ⟨rfl, rfl⟩
   case round =>
    obtain ⟨rfl, rfl⟩ := hrel
    go_wp2
    go_end0
    exact ⟨rfl, by rw [← HD.out]; exact H1.out, H2.out⟩
set_option maxRecDepth 100000 in
set_option maxHeartbeats 2000000 in
theorem ssort_any (N blk cap n : Nat) (d : Array Int) (fv : Value) (cf : Int → Int → Int) (w : World) (hN : InR N d) (hC : CmpOk w blk N fv cf) (hR : RowI w blk cap d) (hdn : d.size = n) (hsz : n ≤ 20) :
  Calls Tryd.prog 47 #[.slice (some ⟨blk, 0, none⟩) n cap, fv] w fun e w' => e = .returned (.tuple #[]) ∧ RowI w' blk cap (Go.Sort.insertionSort (ltOf cf) d 0 d.size) ∧ Keeps (fun b => b = blk) w w' := by
 have hc := hide (stable_any N blk cap n d fv cf w hN hC hR hdn hsz)
 obtain ⟨g, cb, rfl, _⟩ := hC
 clear hN hR
 go_enter Tryd.func47, Tryd.ntmps47
 go_wp2_with fail
 refine hc.out.mono ?_
 rintro e w1 ⟨rfl, h1, h2⟩
 have H1 := hide h1
 have H2 := hide h2
 clear h1 h2
 go_wp2
 go_end0
 exact ⟨rfl, H1.out, H2.out⟩
set_option maxRecDepth 100000 in
set_option maxHeartbeats 2000000 in
/-- of no numbers -/
theorem ssort0_any (a : Option Addr) (cap : Nat) (g : Nat) (cb : Array Value) (w : World) :
  Calls Tryd.prog 47 #[.slice a 0 cap, .func (.func g) #[] cb] w fun e w' => e = .returned (.tuple #[]) ∧ w = w' := by
 have h1 : Calls Tryd.prog 102 #[.slice a 0 cap, .int .i64 0, .int .i64 0, .func (.func g) #[] cb] w fun e w' => e = .returned (.tuple #[]) ∧ w = w' := by
  go_enter Tryd.func102, Tryd.ntmps102
  go_wp2_with fail
  go_loopw [8] (fun v wr => v = .int .i64 1 ∧ w = wr) (fun _ _ => 0)
  case atStart => exact ⟨rfl, rfl⟩
  case round =>
   obtain ⟨rfl, rfl⟩ := hrel
   go_wp2
   go_end0
   exact ⟨rfl, rfl⟩
 have H1 := hide h1
 clear h1
 have h2 : Calls Tryd.prog 78 #[.slice a 0 cap, .int .i64 0, .func (.func g) #[] cb] w fun e w' => e = .returned (.tuple #[]) ∧ w = w' := by
  go_enter Tryd.func78, Tryd.ntmps78
  go_wp2_with fail
  go_loopw [7, 8] (fun va vb wr => va = .int .i64 0 ∧ vb = .int .i64 20 ∧ w = wr) (fun _ _ _ => 0)
  case atStart => exact ⟨rfl, rfl, rfl⟩
  case round =>
   obtain ⟨rfl, rfl, rfl⟩ := hrel
   go_wp2_with fail
   refine H1.out.mono ?_
   rintro e w1 ⟨rfl, rfl⟩
   go_wp2_with fail
   go_loopw [6] (fun v6 wr => v6 = .int .i64 20 ∧ w = wr) (fun _ _ => 0)
   case atStart => exact ⟨rfl, rfl⟩
   case round =>
    obtain ⟨rfl, rfl⟩ := hrel
    go_wp2
    go_end0
    exact ⟨rfl, rfl⟩
 have H2 := hide h2
 clear h2
 go_enter Tryd.func47, Tryd.ntmps47
 go_wp2_with fail
 refine H2.out.mono ?_
 rintro e w1 ⟨rfl, rfl⟩
 go_wp2
 go_end0
 exact ⟨rfl, rfl⟩
theorem flat_get (l : List Int) (i : Nat) : (l.flatMap encI)[i]? = (l[i]?).map (Value.int .i64) := by
 have : l.flatMap encI = l.map (Value.int .i64) := by
  induction l with
  | nil => rfl
  | cons x l ih => simp [encI] at ih ⊢; exact ih
 rw [this, List.getElem?_map]
theorem RowI.of_own {w : World} {B g n cap : Nat} {I : List Int} (h : w.ownsRow B 3 1 (.slice (some ⟨g, 0, none⟩) n cap) I.length (I.flatMap encI)) (hn : n = I.length) : RowI w g cap I.toArray := by
 subst hn
 rcases h.2 with ⟨h1, _⟩ | ⟨g', cap', cur, hv, hg, hb, h1, h2, h3, h4⟩
 ·cases h1
 ·cases hv
  refine ⟨cur, hb, by omega, by simpa using h1, ?_⟩
  intro i hi
  have hi' : i < I.length := by simpa using hi
  have e : (cur.toList.take (I.length * 1))[i]? = (I.flatMap encI)[i]? := by rw [h4]
  rw [flat_get, List.getElem?_take_of_lt (by omega), List.getElem?_eq_getElem hi'] at e
  rw [getElem!_pos I.toArray i hi]
  simpa using e
theorem RowI.owns {w : World} {B g cap : Nat} {d : Array Int} (h : RowI w g cap d) (hB : B ≤ g) (hm : cap ≤ maxLen) : w.ownsRow B 3 1 (.slice (some ⟨g, 0, none⟩) d.size cap) d.toList.length (d.toList.flatMap encI) := by
 obtain ⟨cs, h1, h2, h3, h4⟩ := h
 refine ⟨by simp [length_flatMap_enc (enc := encI) (size := 1) (fun _ => rfl)], .inr ⟨g, cap, cs, by simp, hB, h1, by simpa using h3, hm, by omega, ?_⟩⟩
 apply List.ext_getElem?
 intro i
 rw [flat_get]
 by_cases hi : i < d.size
 ·rw [List.getElem?_take_of_lt (by simp; omega), List.getElem?_eq_getElem (l := d.toList) (by simpa using hi)]
  have := h4 i hi
  rw [getElem!_pos d i hi] at this
  simpa using this
 ·rw [List.getElem?_eq_none (by simp; omega), List.getElem?_eq_none (by simp; omega)]
  rfl
/-- the numbers of rules by precedence -/
def rowR (R : List RuleD) : List Int := rowL (ltOf (cfK (R.map keyR))) R.length
theorem keyR_map {R R' : List RuleD} (h : R.map RuleD.core = R'.map RuleD.core) : R.map keyR = R'.map keyR := by
 have e : ∀ L : List RuleD, L.map keyR = (L.map RuleD.core).map keyR := fun L => by rw [List.map_map]; rfl
 rw [e R, e R', h]
end Go.Proofs.YtceaeiaoanhlnaaDoor
namespace Go.Proofs.YtceaeiaoanhlnaaDoor
open Go.ChangeShapes Go.WideShapes Go.ChangeAt Go.RowKit Go.Lib Go.Shelf
theorem nerr_at (R : List RuleD) (rates : Int) (k : Nat) (hk : k < R.length) (h20 : ¬ 20 < R.length) (h : ∀ x ∈ R.take k, rchk x rates = 0) (h0 : rchk R[k] rates ≠ 0) : nerr R rates = rchk R[k] rates := by
 unfold nerr
 rw [if_neg h20]
 have : R = R.take k ++ R[k] :: R.drop (k + 1) := by rw [← List.drop_eq_getElem_cons hk, List.take_append_drop]
 conv => lhs; rw [this]
 rw [List.map_append, List.find?_append]
 have hn : ((R.take k).map (rchk · rates)).find? (· != 0) = none := by
  rw [List.find?_eq_none]
  intro x hx
  obtain ⟨y, hy, rfl⟩ := List.mem_map.1 hx
  simp [h y hy]
 rw [hn, List.map_cons, List.find?_cons]
 have : (rchk R[k] rates != 0) = true := by simpa using h0
 rw [this]
 rfl
theorem nerr_all (R : List RuleD) (rates : Int) (h20 : ¬ 20 < R.length) (h : ∀ x ∈ R, rchk x rates = 0) : nerr R rates = 0 := by
 unfold nerr
 rw [if_neg h20]
 have hn : (R.map (rchk · rates)).find? (· != 0) = none := by
  rw [List.find?_eq_none]
  intro x hx
  obtain ⟨y, hy, rfl⟩ := List.mem_map.1 hx
  simp [h y hy]
 rw [hn]
 rfl
theorem rchk_small (r : RuleD) (rates : Int) (hf : RuleFit r) (h : rchk r rates = 0) : r.H.length ≤ 1000000 ∧ r.P.length ≤ 1000000 ∧ r.S.length ≤ 1000000 ∧ r.D.length ≤ 1000000 := by
 have e : mchk (bl r.path) r.H = 0 ∧ wrchk r.pre r.S r.D = 0 := by
  unfold rchk at h
  by_cases h1 : mchk (bl r.path) r.H = 0
  ·refine ⟨h1, ?_⟩
   rw [if_neg (fun hh => hh h1)] at h
   by_cases h2 : Sp.check r.P = 0
   ·rw [if_neg (fun hh => hh h2)] at h
    split at h
    ·omega
    ·split at h
     ·omega
     ·by_cases h3 : wrchk r.pre r.S r.D = 0
      ·exact h3
      ·rw [if_pos h3] at h; exact absurd h h3
   ·rw [if_pos h2] at h; exact absurd h h2
  ·rw [if_pos h1] at h; exact absurd h h1
 obtain ⟨e1, e2⟩ := e
 refine ⟨?_, hf.2.2.2.2.2.2, ?_, ?_⟩
 ·unfold mchk at e1
  split at e1
  ·unfold hchk at e1
   split at e1
   ·omega
   ·omega
  ·omega
 ·unfold wrchk at e2
  split at e2
  ·omega
  ·by_cases h1 : hchk r.S = 0
   ·unfold hchk at h1
    split at h1
    ·omega
    ·omega
   ·rw [if_pos h1] at e2; exact absurd e2 h1
 ·unfold wrchk at e2
  split at e2
  ·omega
  ·by_cases h1 : hchk r.S = 0
   ·rw [if_neg (fun hh => hh h1)] at e2
    split at e2
    ·omega
    ·omega
   ·rw [if_pos h1] at e2; exact absurd e2 h1
theorem upTo_succ (k : Nat) : upTo (k + 1) = upTo k ++ [(k : Int)] := by simp [upTo, List.range_succ]
theorem core_len {Rs R : List RuleD} (h : Rs.map RuleD.core = R.map RuleD.core) : Rs.length = R.length := by simpa using congrArg List.length h
/-- the phases of 'append' of a twin to the table's rules -/
def PhA (B _b8 : Nat) (W : World) (vr _vi : Value) (Rs : List RuleD) (_I : List Int) (r : RuleD) : List Value → World → Prop
 | [], w' => Ext W w'
 | [u], w' => Ext W w' ∧ ∃ r', u = r'.val ∧ Same r r' ∧ RuleOwn B w' r'
 | [u, s], w' => Ext W w' ∧ ∃ r', u = r'.val ∧ Same r r' ∧ RuleOwn B w' r' ∧ Rules w' s [r']
 | [_, _, v], w' => ∃ r' x y, Same r r' ∧ RuleOwn B w' r' ∧ v = .slice x (Rs.length + 1) y ∧ w'.ownsRow B 43 19 v (Rs.length + 1) (Rs.flatMap encR ++ encR r') ∧ Keeps (fun g => vr.ownBlock = some g) W w'
 | [_, _, v, _], w' => ∃ w1 r', Same r r' ∧ RuleOwn B w1 r' ∧ w1.ownsRow B 43 19 v (Rs.length + 1) (Rs.flatMap encR ++ encR r') ∧ Keeps (fun g => vr.ownBlock = some g) W w1 ∧ w' = w1.setCell ⟨B, 0, none⟩ v
 | _, _ => False
/-- the phases of 'append' of a number to the table's row -/
def PhB (B : Nat) (W : World) (vi : Value) (I : List Int) (k : Int) : List Value → World → Prop
 | [], w' => Ext W w'
 | [s], w' => Ext W w' ∧ Ints w' s [k]
 | [_, v], w' => ∃ x y, v = .slice x (I.length + 1) y ∧ w'.ownsRow B 3 1 v (I.length + 1) (I.flatMap encI ++ [.int .i64 k]) ∧ Keeps (fun g => vi.ownBlock = some g) W w'
 | [_, v, _], w' => ∃ w1, w1.ownsRow B 3 1 v (I.length + 1) (I.flatMap encI ++ [.int .i64 k]) ∧ Keeps (fun g => vi.ownBlock = some g) W w1 ∧ w' = w1.setCell ⟨B, 1, none⟩ v
 | _, _ => False
theorem Tryd.infoI : (Tryd.prog.info? 3).map (fun i => (i.zero, i.size, i.bytes)) = some (some (.int .i64 0), 1, 8) := by kernel_rfl
theorem frame57 (x : Nat → Value) : frameOf 57 x = #[x 0, x 1, x 2, x 3, x 4, x 5, x 6, x 7, x 8, x 9, x 10, x 11, x 12, x 13, x 14, x 15, x 16, x 17, x 18, x 19, x 20, x 21, x 22, x 23, x 24, x 25, x 26, x 27, x 28, x 29, x 30, x 31, x 32, x 33, x 34, x 35, x 36, x 37, x 38, x 39, x 40, x 41, x 42, x 43, x 44, x 45, x 46, x 47, x 48, x 49, x 50, x 51, x 52, x 53, x 54, x 55, x 56] := rfl
set_option maxRecDepth 100000 in
set_option maxHeartbeats 16000000 in
theorem hnew_any (R : List RuleD) (rates : Int) (v : Value) (w : World) (hs : Rules w v R) (hok : ∀ r ∈ R, RuleOk w r ∧ RuleFit r) (hm : MaxV w) :
  Calls Tryd.prog 25 #[v, .int .i64 rates] w fun e w' => Ext w w' ∧ ((nerr R rates ≠ 0 ∧ e = .returned (.tuple #[.pointer none, .int .i64 (nerr R rates)])) ∨
   (nerr R rates = 0 ∧ ∃ b Rs, e = .returned (.tuple #[.pointer (some ⟨b, 0, none⟩), .int .i64 0]) ∧ TabAt w.heap.size w' b Rs (rowR R) ∧ Rs.map RuleD.core = R.map RuleD.core)) := by
 obtain ⟨hl, a, c, rfl⟩ := hs.shape
 obtain ⟨dd, hd1, hd2⟩ := Tryd.ruleDesc
 by_cases h20 : 20 < R.length
 ·have h20z : (20 : Int) < R.length := by omega
  have hn : nerr R rates = 2 := by unfold nerr; rw [if_pos h20]
  rw [hn]
  clear hs hok hm hn
  go_enter Tryd.func25, Tryd.ntmps25
  go_wp2
  go_ret2
  exact ⟨Below.refl _ _, .inl ⟨by omega, rfl⟩⟩
 have h20z : ¬ (20 : Int) < R.length := by omega
 have HS := hide hs
 have HOK := hide hok
 have HM := hide hm
 have H20 := hide h20
 clear hs hok hm
 go_enter Tryd.func25, Tryd.ntmps25
 go_wp2_with fail
 generalize hW : (w.alloc (.cells #[.slice none 0 0, .slice none 0 0] 78)).alloc (.cells #[.pointer (some ⟨w.heap.size, 0, none⟩)] 23) = W0
 have hT0 : TabAt w.heap.size W0 w.heap.size [] (upTo 0) := by
  subst hW
  refine ⟨Nat.le_refl _, ⟨_, _, (Below.heap_alloc _ _ _ (by simp)).trans (heap_alloc_new w _), ?_, ?_⟩, fun r hr => by cases hr⟩
  ·exact World.ownsRow_nil _ _ _ _
  ·exact World.ownsRow_nil _ _ _ _
 have h60 : W0.heap[w.heap.size + 1]? = some (.cells #[.pointer (some ⟨w.heap.size, 0, none⟩)] 23 (0, 0)) := by
  subst hW
  exact heap_alloc2_new w _ _
 have hE0 : Ext w W0 := by
  subst hW
  exact ((Below.refl _ w).alloc (Nat.le_refl _) _).alloc (by simp) _
 clear hW
 go_loopw [17] (fun i wr => ∃ (k : Nat) (Rs : List RuleD), k ≤ R.length ∧ i = .int .i64 k ∧ Ext w wr ∧ TabAt w.heap.size wr w.heap.size Rs (upTo k) ∧ wr.heap[w.heap.size + 1]? = some (.cells #[.pointer (some ⟨w.heap.size, 0, none⟩)] 23 (0, 0)) ∧ Rs.map RuleD.core = (R.take k).map RuleD.core ∧ ∀ x ∈ R.take k, rchk x rates = 0) (fun i _ => R.length - (intOf i).toNat)
 case atStart => exact ⟨0, [], by omega, rfl, hE0, hT0, h60, rfl, fun x hx => by simp at hx⟩
 case round =>
  clear hT0 h60 hE0
  obtain ⟨k, Rs, hk, rfl, hE, hT, h6, hcore, hall⟩ := hrel
  have HT := hide hT
  have H6 := hide h6
  have HCO := hide hcore
  have HAL := hide hall
  clear hT h6 hcore hall
  by_cases hlt : k < R.length
  ·obtain ⟨b, off, rfl, hbb, hc⟩ := rules_at HS.out k hlt
   obtain ⟨r, hr⟩ : ∃ r, R[k] = r := ⟨_, rfl⟩
   rw [hr] at hc
   have hokr := HOK.out r (by rw [← hr]; exact List.getElem_mem hlt)
   have hrg : wr.rangeAt b (off + k * 19) (encR r) := fun j v hv => (hE.cell (p := ⟨b, off + k * 19 + j, none⟩) hbb).trans (hc j v hv)
   have HR := hide hr
   have HOR := hide hokr
   clear hc hokr hr
   go_upto_region 6 with (fail)
   refine wp_region_lit ?_
   refine wpList_plain rfl fun K hK => ?_
   go_simp
   refine hK _ _ ?_
   refine wpList_plain rfl fun K hK => ?_
   go_simp
   refine hK _ _ ?_
   refine wpList_load_mid rfl 43 (.tmp 20) rfl b (off + k * 19) rfl (encR r) dd hrg hd1 hd2 Tryd.ruleSize ?_
   clear hrg
   refine wpList_plain rfl fun K hK => ?_
   go_simp
   refine hK _ _ ?_
   refine wpList_plain rfl fun K hK => ?_
   go_simp
   refine hK _ _ ?_
   have hb8 := heap_alloc_new wr (.cells #[.string ⟨#[]⟩, .bool false, .slice none 0 0, .slice none 0 0, .int .i64 0, .int .i64 0, .int .i64 0, .int .i64 0, .string ⟨#[]⟩, .slice none 0 0, .slice none 0 0, .int .i64 0, .int .i64 0, .int .i64 0, .int .i64 0, .int .i64 0, .int .i64 0, .int .i64 0, .int .i64 0] 43)
   have hth : (wr.alloc (.cells #[.string ⟨#[]⟩, .bool false, .slice none 0 0, .slice none 0 0, .int .i64 0, .int .i64 0, .int .i64 0, .int .i64 0, .string ⟨#[]⟩, .slice none 0 0, .slice none 0 0, .int .i64 0, .int .i64 0, .int .i64 0, .int .i64 0, .int .i64 0, .int .i64 0, .int .i64 0, .int .i64 0] 43)).there wr.heap.size 0 (encR r).toArray.size := fun j hj => by
    have hj' : j < 19 := hj
    rw [Nat.zero_add]
    refine ⟨?_, by simp only [World.frozen?, hb8]; simp⟩
    simp only [World.cell?, hb8]
    simp [hj']
   refine wpList_store_mid rfl 43 (.tmp 8) (.tmp 21) rfl wr.heap.size 0 (encR r).toArray rfl rfl hth Tryd.ruleSize (all_oneCell_toArray (encR_one' r HOR.out.1)) ?_
   refine wpList_nil ?_
   have hce : CellR ((wr.alloc (.cells #[.string ⟨#[]⟩, .bool false, .slice none 0 0, .slice none 0 0, .int .i64 0, .int .i64 0, .int .i64 0, .int .i64 0, .string ⟨#[]⟩, .slice none 0 0, .slice none 0 0, .int .i64 0, .int .i64 0, .int .i64 0, .int .i64 0, .int .i64 0, .int .i64 0, .int .i64 0, .int .i64 0] 43)).setCells wr.heap.size 0 (encR r).toArray.toList) wr.heap.size r := by
    refine ⟨Nat.lt_of_lt_of_le (by simp) (keeps_setCells wr.heap.size (encR r) 0 _).size, fun j u hu => ?_⟩
    have := World.rangeAt_setCells_same (wr.alloc (.cells #[.string ⟨#[]⟩, .bool false, .slice none 0 0, .slice none 0 0, .int .i64 0, .int .i64 0, .int .i64 0, .int .i64 0, .string ⟨#[]⟩, .slice none 0 0, .slice none 0 0, .int .i64 0, .int .i64 0, .int .i64 0, .int .i64 0, .int .i64 0, .int .i64 0, .int .i64 0, .int .i64 0] 43)) wr.heap.size 0 (encR r) hth j u hu
    rw [Nat.zero_add] at this
    exact this
   have hxe : Ext wr ((wr.alloc (.cells #[.string ⟨#[]⟩, .bool false, .slice none 0 0, .slice none 0 0, .int .i64 0, .int .i64 0, .int .i64 0, .int .i64 0, .string ⟨#[]⟩, .slice none 0 0, .slice none 0 0, .int .i64 0, .int .i64 0, .int .i64 0, .int .i64 0, .int .i64 0, .int .i64 0, .int .i64 0, .int .i64 0] 43)).setCells wr.heap.size 0 (encR r).toArray.toList) := Keeps.ext ((Below.refl _ wr).alloc (Nat.le_refl _) _) (keeps_setCells wr.heap.size (encR r) 0 _) (fun g hg => by omega)
   generalize (wr.alloc (.cells #[.string ⟨#[]⟩, .bool false, .slice none 0 0, .slice none 0 0, .int .i64 0, .int .i64 0, .int .i64 0, .int .i64 0, .string ⟨#[]⟩, .slice none 0 0, .slice none 0 0, .int .i64 0, .int .i64 0, .int .i64 0, .int .i64 0, .int .i64 0, .int .i64 0, .int .i64 0, .int .i64 0] 43)).setCells wr.heap.size 0 (encR r).toArray.toList = W at hce hxe ⊢
   clear hb8 hth
   go_upto_region 7 with (fail)
   refine wp_region_lit ?_
   refine wpList_load_mid rfl 43 (.tmp 8) rfl wr.heap.size 0 rfl (encR r) dd (fun j v hv => by rw [Nat.zero_add]; exact hce.2 j v hv) hd1 hd2 Tryd.ruleSize ?_
   go_wp2_with fail
   have hokW : RuleOk W r := HOR.out.1.ext (Ext.trans hE hxe)
   refine (hrchk_any r rates W hokW HOR.out.2 (HM.out.ext (Ext.trans hE hxe))).mono ?_
   rintro e W2 ⟨rfl, E2⟩
   obtain ⟨z, hz⟩ : ∃ z, rchk r rates = z := ⟨_, rfl⟩
   rw [hz]
   have HZ := hide hz
   clear hz
   by_cases h0 : z = 0
   rotate_left
   ·have hb : (z != 0) = true := by simp [h0]
    have HN := hide (nerr_at R rates k hlt H20.out HAL.out (by rw [HR.out, HZ.out]; exact h0))
    go_wp2
    go_ret2
    refine ⟨Ext.trans hE (Ext.trans hxe E2), .inl ?_⟩
    rw [HN.out, HR.out, HZ.out]
    exact ⟨h0, rfl⟩
   subst h0
   go_upto_region 10 with (fail)
   have HXE := hide (Ext.trans hxe E2)
   have hce2 := hce.ext E2
   have hok2 : RuleOk W2 r := hokW.ext E2
   clear hce hxe hokW E2
   obtain ⟨hT1, ⟨vr, vi, hT2, hT3, hT4⟩, hT5⟩ := HT.out.ext HXE.out
   have h62 := (HXE.out.block _ (Array.getElem?_eq_some_iff.1 H6.out).1).trans H6.out
   have hsm := rchk_small r rates HOR.out.2 HZ.out
   have hE2 : Ext w W2 := Ext.trans hE HXE.out
   have hl6 : ∀ vs X, PhA w.heap.size wr.heap.size W2 vr vi Rs (upTo k) r vs X → X.cell? ⟨w.heap.size + 1, 0, none⟩ = some (.pointer (some ⟨w.heap.size, 0, none⟩)) := by
    have hbl : ∀ X : World, X.heap[w.heap.size + 1]? = some (.cells #[.pointer (some ⟨w.heap.size, 0, none⟩)] 23 (0, 0)) → X.cell? ⟨w.heap.size + 1, 0, none⟩ = some (.pointer (some ⟨w.heap.size, 0, none⟩)) := fun X hX => by
     simp only [World.cell?, hX]
     rfl
    have hlt6 := (Array.getElem?_eq_some_iff.1 h62).1
    have hne6 : ¬ vr.ownBlock = some (w.heap.size + 1) := fun e => absurd (owns_type hT3 e h62) (by decide)
    intro vs X h
    apply hbl
    rcases vs with _ | ⟨u, _ | ⟨s, _ | ⟨v, _ | ⟨z, _ | ⟨y, vs⟩⟩⟩⟩⟩
    ·exact (h.block _ hlt6).trans h62
    ·exact (h.1.block _ hlt6).trans h62
    ·exact (h.1.block _ hlt6).trans h62
    ·obtain ⟨r', x, y, -, -, -, -, hk⟩ := h
     exact (hk.block _ hlt6 hne6).trans h62
    ·obtain ⟨w1, r', -, -, -, hk, rfl⟩ := h
     exact (Below.heap_setCell _ _ _ _ (by simp)).trans ((hk.block _ hlt6 hne6).trans h62)
    ·exact h.elim
   have hlr : ∀ vs X, vs.length ≤ 2 → PhA w.heap.size wr.heap.size W2 vr vi Rs (upTo k) r vs X → X.cell? ⟨w.heap.size, 0, none⟩ = some vr := by
    have hbl : ∀ X : World, X.heap[w.heap.size]? = some (.cells #[vr, vi] 78 (0, 0)) → X.cell? ⟨w.heap.size, 0, none⟩ = some vr := fun X hX => by
     simp only [World.cell?, hX]
     rfl
    have hlt0 := (Array.getElem?_eq_some_iff.1 hT2).1
    intro vs X hn h
    apply hbl
    rcases vs with _ | ⟨u, _ | ⟨s, _ | ⟨v, vs⟩⟩⟩
    ·exact (h.block _ hlt0).trans hT2
    ·exact (h.1.block _ hlt0).trans hT2
    ·exact (h.1.block _ hlt0).trans hT2
    ·simp at hn
   have hlb : ∀ vs X, vs.length ≤ 0 → PhA w.heap.size wr.heap.size W2 vr vi Rs (upTo k) r vs X → CellR X wr.heap.size r := by
    intro vs X hn h
    rcases vs with _ | ⟨u, vs⟩
    ·exact hce2.ext h
    ·simp at hn
   have HL6 := hide hl6
   have HLR := hide hlr
   have HLB := hide hlb
   have HT2 := hide hT2
   have HT3 := hide hT3
   have HT4 := hide hT4
   have HT5 := hide hT5
   have H62 := hide h62
   have HSM := hide hsm
   have HE2 := hide hE2
   have HRL := hide (show Rs.length ≤ 20 by have := core_len HCO.out; rw [List.length_take] at this; have := H20.out; omega)
   obtain ⟨ir, zr, hir0, hir1, hir2, hir3, hir4⟩ := info_partsR
   have HOK2 := hide hok2
   clear hl6 hlr hlb hT2 hT3 hT4 hT5 h62 hsm hE2 hok2 hce2 hT1
   refine wp_region_ph 57 [6, 7, 8, 11] (PhA w.heap.size wr.heap.size W2 vr vi Rs (upTo k) r) (fun t v => match t with | 0 => v = .slice (some ⟨b, off, none⟩) R.length c | 1 => v = .int .i64 rates | 2 => v = undef | 3 => v = undef | 6 => v = .pointer (some ⟨w.heap.size + 1, 0, none⟩) | 7 => v = .int .i64 k | 8 => v = .pointer (some ⟨wr.heap.size, 0, none⟩) | 10 => v = .slice (some ⟨b, off, none⟩) R.length c | 11 => v = .int .i64 R.length | 12 => v = .bool false | 13 => v = .agg #[.slice none 0 0, .slice none 0 0] | 14 => v = .pointer (some ⟨w.heap.size, 0, none⟩) | 15 => v = .slice (some ⟨b, off, none⟩) R.length c | 16 => v = .int .i64 R.length | 17 => v = .int .i64 k | 28 => v = .pointer (some ⟨w.heap.size, 0, none⟩) | 29 => v = .pointer (some ⟨w.heap.size, 0, none⟩) | 30 => v = .pointer (some ⟨w.heap.size, 0, none⟩) | 31 => v = .pointer (some ⟨w.heap.size, 0, none⟩) | 32 => v = vr | 33 => v = r.val | 37 => v = .pointer (some ⟨w.heap.size, 0, none⟩) | 38 => v = .pointer (some ⟨w.heap.size, 0, none⟩) | 50 => v = undef | 51 => v = undef | 52 => v = undef | 53 => v = undef | 54 => v = undef | 55 => v = undef | 56 => v = undef | _ => True) (by kernel_rfl) rfl (by kernel_rfl) (by kernel_rfl) (by kernel_rfl) ?_ ?_ ?_ ?_ ?_
   ·exact (Below.refl _ _).drew
   ·intro t ht hno
    have hi : t = 0 ∨ t = 1 ∨ t = 2 ∨ t = 3 ∨ t = 4 ∨ t = 5 ∨ t = 6 ∨ t = 7 ∨ t = 8 ∨ t = 9 ∨ t = 10 ∨ t = 11 ∨ t = 12 ∨ t = 13 ∨ t = 14 ∨ t = 15 ∨ t = 16 ∨ t = 17 ∨ t = 18 ∨ t = 19 ∨ t = 20 ∨ t = 21 ∨ t = 22 ∨ t = 23 ∨ t = 24 ∨ t = 25 ∨ t = 26 ∨ t = 27 ∨ t = 28 ∨ t = 29 ∨ t = 30 ∨ t = 31 ∨ t = 32 ∨ t = 33 ∨ t = 34 ∨ t = 35 ∨ t = 36 ∨ t = 37 ∨ t = 38 ∨ t = 39 ∨ t = 40 ∨ t = 41 ∨ t = 42 ∨ t = 43 ∨ t = 44 ∨ t = 45 ∨ t = 46 ∨ t = 47 ∨ t = 48 ∨ t = 49 ∨ t = 50 ∨ t = 51 ∨ t = 52 ∨ t = 53 ∨ t = 54 ∨ t = 55 ∨ t = 56 := by omega
    rcases hi with rfl | rfl | rfl | rfl | rfl | rfl | rfl | rfl | rfl | rfl | rfl | rfl | rfl | rfl | rfl | rfl | rfl | rfl | rfl | rfl | rfl | rfl | rfl | rfl | rfl | rfl | rfl | rfl | rfl | rfl | rfl | rfl | rfl | rfl | rfl | rfl | rfl | rfl | rfl | rfl | rfl | rfl | rfl | rfl | rfl | rfl | rfl | rfl | rfl | rfl | rfl | rfl | rfl | rfl | rfl | rfl | rfl
    all_goals first | exact rfl | exact True.intro | exact absurd (hno.symm.trans (by kernel_rfl) : true = false) (by decide)
   ·intro i o ho hmi vs X w' hpk hph hX hI K hK
    have hin : i < 12 := (Array.getElem?_eq_some_iff.1 ho).1
    have hi : i = 0 ∨ i = 1 ∨ i = 2 ∨ i = 3 ∨ i = 4 ∨ i = 5 ∨ i = 6 ∨ i = 7 ∨ i = 8 ∨ i = 9 ∨ i = 10 ∨ i = 11 := by omega
    rcases hi with rfl | rfl | rfl | rfl | rfl | rfl | rfl | rfl | rfl | rfl | rfl | rfl
    ·obtain rfl := Option.some.inj ho
     have e6 : X 6 = _ := hI 6 (by kernel_rfl)
     have c0 := HL6.out vs w' hph
     unfold wpOp
     simp only [ho]
     rw [if_pos (by rfl)]
     left
     rw [frame57]
     go_simp
     refine metK (hK.out (.pointer (some ⟨w.heap.size, 0, none⟩)) (fun d hd => by cases hd; exact rfl)) ?_
     simp [frame57, Act.put, *]
    ·obtain rfl := Option.some.inj ho
     have e6 : X 6 = _ := hI 6 (by kernel_rfl)
     have c0 := HL6.out vs w' hph
     unfold wpOp
     simp only [ho]
     rw [if_pos (by rfl)]
     left
     rw [frame57]
     go_simp
     refine metK (hK.out (.pointer (some ⟨w.heap.size, 0, none⟩)) (fun d hd => by cases hd; exact rfl)) ?_
     simp [frame57, Act.put, *]
    ·obtain rfl := Option.some.inj ho
     have e29 : X 29 = _ := hI 29 (by kernel_rfl)
     unfold wpOp
     simp only [ho]
     rw [if_pos (by rfl)]
     left
     rw [frame57]
     go_simp
     refine metK (hK.out (.pointer (some ⟨w.heap.size, 0, none⟩)) (fun d hd => by cases hd; exact rfl)) ?_
     simp [frame57, Act.put, *]
    ·obtain rfl := Option.some.inj ho
     have e30 : X 30 = _ := hI 30 (by kernel_rfl)
     unfold wpOp
     simp only [ho]
     rw [if_pos (by rfl)]
     left
     rw [frame57]
     go_simp
     refine metK (hK.out (.pointer (some ⟨w.heap.size, 0, none⟩)) (fun d hd => by cases hd; exact rfl)) ?_
     simp [frame57, Act.put, *]
    ·obtain rfl := Option.some.inj ho
     have e31 : X 31 = _ := hI 31 (by kernel_rfl)
     have c0 := HLR.out vs w' ((hpk 2 (by decide)).2 (by kernel_rfl)) hph
     unfold wpOp
     simp only [ho]
     rw [if_pos (by rfl)]
     left
     rw [frame57]
     go_simp
     refine metK (hK.out (vr) (fun d hd => by cases hd; exact rfl)) ?_
     simp [frame57, Act.put, *]
    ·obtain rfl := Option.some.inj ho
     have e8 : X 8 = _ := hI 8 (by kernel_rfl)
     have hcr := HLB.out vs w' ((hpk 0 (by decide)).2 (by kernel_rfl)) hph
     unfold wpOp
     simp only [ho]
     rw [if_pos (by rfl)]
     left
     rw [frame57]
     refine wp_load_mid 43 (.tmp 8) rfl wr.heap.size 0 e8 (encR r) dd (fun j v hv => by rw [Nat.zero_add]; exact hcr.2 j v hv) hd1 hd2 Tryd.ruleSize ?_
     refine metK (hK.out r.val (fun d hd => by cases hd; exact rfl)) ?_
     rfl
    ·exact absurd hmi (by decide)
    ·exact absurd hmi (by decide)
    ·exact absurd hmi (by decide)
    ·obtain rfl := Option.some.inj ho
     have e28 : X 28 = _ := hI 28 (by kernel_rfl)
     unfold wpOp
     simp only [ho]
     rw [if_pos (by rfl)]
     left
     rw [frame57]
     go_simp
     refine metK (hK.out (.pointer (some ⟨w.heap.size, 0, none⟩)) (fun d hd => by cases hd; exact rfl)) ?_
     simp [frame57, Act.put, *]
    ·obtain rfl := Option.some.inj ho
     have e37 : X 37 = _ := hI 37 (by kernel_rfl)
     unfold wpOp
     simp only [ho]
     rw [if_pos (by rfl)]
     left
     rw [frame57]
     go_simp
     refine metK (hK.out (.pointer (some ⟨w.heap.size, 0, none⟩)) (fun d hd => by cases hd; exact rfl)) ?_
     simp [frame57, Act.put, *]
    ·exact absurd hmi (by decide)
   ·intro i o ho hmi vs X w' hqi hql hph hX hI K hK
    rcases vs with _ | ⟨v0, _ | ⟨v1, _ | ⟨v2, _ | ⟨v3, _⟩⟩⟩⟩
    ·obtain rfl : 6 = i := hqi
     obtain rfl := Option.some.inj ho
     have e33 : X 33 = _ := hI 33 (by kernel_rfl)
     unfold wpOp
     simp only [ho]
     rw [if_pos (by rfl)]
     left
     rw [frame57]
     go_simp
     refine (twin_any r w' (HOK2.out.ext hph) HSM.out).mono ?_
     rintro e w9 ⟨r', rfl, hsame, hown, E9⟩
     refine metK (hK.out r'.val w9 ⟨Ext.trans hph E9, r', rfl, hsame, hown.mono (Nat.le_trans HE2.out.size hph.size)⟩) ?_
     simp [frame57, Act.put, *]
    ·obtain rfl : 7 = i := hqi
     obtain rfl := Option.some.inj ho
     have e34 : X 34 = v0 := hX 0 34 (by simp) (by kernel_rfl)
     obtain ⟨hE1, r', rfl, hsame, hown⟩ := hph
     have hown' := hown
     obtain ⟨path, ex, hv, H, pv, P, mi, ab, de, ti, pre, sv, S, dv, D, q0, q1, q2, q3, q4, q5, q6, rate⟩ := r'
     obtain ⟨a1, c1, s1⟩ := owns_shape hown.1
     obtain ⟨a2, c2, s2⟩ := owns_shape hown.2.1
     obtain ⟨a3, c3, s3⟩ := owns_shape hown.2.2.1
     obtain ⟨a4, c4, s4⟩ := owns_shape hown.2.2.2
     simp only at s1 s2 s3 s4
     subst s1 s2 s3 s4
     simp only [RuleD.val] at e34
     clear hown
     unfold wpOp
     simp only [ho]
     rw [if_pos (by rfl)]
     left
     rw [frame57]
     go_simp
     refine metK (hK.out (.slice (some ⟨w'.heap.size, 0, none⟩) 1 1) _ ⟨hE1.trans ((Below.refl _ w').alloc (Nat.le_refl _) _), _, rfl, hsame, hown'.ext ((Below.refl _ w').alloc (Nat.le_refl _) _), rules_new1 w' _ _⟩) ?_
     simp [frame57, Act.put, *]
    ·obtain rfl : 8 = i := hqi
     obtain rfl := Option.some.inj ho
     have e32 : X 32 = _ := hI 32 (by kernel_rfl)
     have e35 : X 35 = v1 := hX 1 35 (by simp) (by kernel_rfl)
     obtain ⟨hE1, r', rfl, hsame, hown, hsl⟩ := hph
     unfold wpOp
     simp only [ho]
     rw [if_pos (by rfl)]
     left
     rw [frame57]
     refine wp_append_sl (enc := encR) _ _ _ rfl w.heap.size 43 ir zr 19 232 Tryd.underlying24 hir0 hir1 hir2 hir3 hir4 (by decide) encR_len vr Rs.length (Rs.flatMap encR) e32 (owns_ext HT3.out hE1) _ e35 [r'] hsl (fun x hx => by rw [List.mem_singleton.1 hx]; exact encR_one r' hown) (by unfold maxLen; have := HRL.out; simp; omega) (by have := HRL.out; simp; omega) (Nat.le_trans HE2.out.size hE1.size) ?_
     intro v' w'' ho hg
     obtain ⟨x, y, rfl⟩ := owns_shape ho
     have hk : Keeps (fun g => vr.ownBlock = some g) w' w'' := Keeps.of_grown hg (fun g h => h)
     refine metK (hK.out (.slice x (Rs.length + 1) y) w'' ⟨r', x, y, hsame, hown.keeps hk (fun g hg hX => ?_), rfl, by simpa using ho, (Keeps.of_ext hE1).trans hk⟩) ?_
     ·obtain ⟨cs, fz, hcs⟩ := ownsRow_kind (owns_ext HT3.out hE1) g hX
      have h1 := owns_type (owns_ext HT3.out hE1) hX hcs
      rcases hown.type hg hcs with h | h | h <;> exact absurd (h1.symm.trans h) (by decide)
     ·simp [frame57, Act.put, *]
    ·obtain rfl : 11 = i := hqi
     obtain rfl := Option.some.inj ho
     have e36 : X 36 = v2 := hX 2 36 (by simp) (by kernel_rfl)
     have e38 : X 38 = _ := hI 38 (by kernel_rfl)
     obtain ⟨r', x, y, hsame, hown, rfl, hwn, hk⟩ := hph
     have hne0 : ¬ vr.ownBlock = some w.heap.size := fun e => absurd (owns_type HT3.out e HT2.out) (by decide)
     have hb0 := (hk.block _ (Array.getElem?_eq_some_iff.1 HT2.out).1 hne0).trans HT2.out
     have c0 : w'.cell? ⟨w.heap.size, 0, none⟩ = some vr := by simp only [World.cell?, hb0]; rfl
     have z0 : w'.frozen? ⟨w.heap.size, 0, none⟩ = false := by simp [World.frozen?, hb0]
     unfold wpOp
     simp only [ho]
     rw [if_pos (by rfl)]
     left
     rw [frame57]
     go_simp
     refine metK (hK.out undef _ ⟨w', r', hsame, hown, hwn, hk, rfl⟩) ?_
     simp [frame57, Act.put, *]
    ·simp at hql <;> omega
   ·intro vs X w' hlen hph hX hI
    have e0 : X 0 = _ := hI 0 (by omega) (by kernel_rfl)
    have e1 : X 1 = _ := hI 1 (by omega) (by kernel_rfl)
    have e2 : X 2 = _ := hI 2 (by omega) (by kernel_rfl)
    have e3 : X 3 = _ := hI 3 (by omega) (by kernel_rfl)
    have e6 : X 6 = _ := hI 6 (by omega) (by kernel_rfl)
    have e7 : X 7 = _ := hI 7 (by omega) (by kernel_rfl)
    have e8 : X 8 = _ := hI 8 (by omega) (by kernel_rfl)
    have e10 : X 10 = _ := hI 10 (by omega) (by kernel_rfl)
    have e11 : X 11 = _ := hI 11 (by omega) (by kernel_rfl)
    have e12 : X 12 = _ := hI 12 (by omega) (by kernel_rfl)
    have e13 : X 13 = _ := hI 13 (by omega) (by kernel_rfl)
    have e14 : X 14 = _ := hI 14 (by omega) (by kernel_rfl)
    have e15 : X 15 = _ := hI 15 (by omega) (by kernel_rfl)
    have e16 : X 16 = _ := hI 16 (by omega) (by kernel_rfl)
    have e17 : X 17 = _ := hI 17 (by omega) (by kernel_rfl)
    have e28 : X 28 = _ := hI 28 (by omega) (by kernel_rfl)
    have e29 : X 29 = _ := hI 29 (by omega) (by kernel_rfl)
    have e30 : X 30 = _ := hI 30 (by omega) (by kernel_rfl)
    have e31 : X 31 = _ := hI 31 (by omega) (by kernel_rfl)
    have e32 : X 32 = _ := hI 32 (by omega) (by kernel_rfl)
    have e33 : X 33 = _ := hI 33 (by omega) (by kernel_rfl)
    have e37 : X 37 = _ := hI 37 (by omega) (by kernel_rfl)
    have e38 : X 38 = _ := hI 38 (by omega) (by kernel_rfl)
    have e50 : X 50 = _ := hI 50 (by omega) (by kernel_rfl)
    have e51 : X 51 = _ := hI 51 (by omega) (by kernel_rfl)
    have e52 : X 52 = _ := hI 52 (by omega) (by kernel_rfl)
    have e53 : X 53 = _ := hI 53 (by omega) (by kernel_rfl)
    have e54 : X 54 = _ := hI 54 (by omega) (by kernel_rfl)
    have e55 : X 55 = _ := hI 55 (by omega) (by kernel_rfl)
    have e56 : X 56 = _ := hI 56 (by omega) (by kernel_rfl)
    rcases vs with _ | ⟨v0, _ | ⟨v1, _ | ⟨v2, _ | ⟨v3, _ | ⟨vz, vs⟩⟩⟩⟩⟩
    ·simp at hlen
    ·simp at hlen
    ·simp at hlen
    ·simp at hlen
    rotate_left
    ·simp at hlen
    have e34 : X 34 = v0 := hX 0 34 (by simp) (by kernel_rfl)
    have e35 : X 35 = v1 := hX 1 35 (by simp) (by kernel_rfl)
    have e36 : X 36 = v2 := hX 2 36 (by simp) (by kernel_rfl)
    clear hX hI hlen
    rw [frame57]
    simp only [e0, e1, e2, e3, e6, e7, e8, e10, e11, e12, e13, e14, e15, e16, e17, e28, e29, e30, e31, e32, e33, e34, e35, e36, e37, e38, e50, e51, e52, e53, e54, e55, e56]
    obtain ⟨w1, r', hsame, hown, ho, hk, rfl⟩ := hph
    have hne0 : ¬ vr.ownBlock = some w.heap.size := fun e => absurd (owns_type HT3.out e HT2.out) (by decide)
    have hne6 : ¬ vr.ownBlock = some (w.heap.size + 1) := fun e => absurd (owns_type HT3.out e H62.out) (by decide)
    have hb0 := (hk.block _ (Array.getElem?_eq_some_iff.1 HT2.out).1 hne0).trans HT2.out
    have hb6 := (hk.block _ (Array.getElem?_eq_some_iff.1 H62.out).1 hne6).trans H62.out
    have hs := Keeps.of_set (X := fun g => g = w.heap.size) w1 w.heap.size 0 v2 rfl
    have hE3 : Ext w (w1.setCell ⟨w.heap.size, 0, none⟩ v2) := Keeps.ext (Keeps.ext HE2.out hk (fun g hg => (HT3.out.lt g hg).1)) hs (fun g hg => by omega)
    have hvi : ∀ g, vi.ownBlock = some g → ¬ vr.ownBlock = some g := fun g h1 h2 => owns_ne HT3.out HT4.out (by decide) g h2 h1
    have ht4 := owns_keeps HT4.out hk hvi
    have hT' : TabAt w.heap.size (w1.setCell ⟨w.heap.size, 0, none⟩ v2) w.heap.size (Rs ++ [r']) (upTo k) := by
     refine ⟨Nat.le_refl _, ⟨v2, vi, ?_, ?_, ?_⟩, ?_⟩
     ·have := (Arr.set (t := 78) (n := 2) (f := fun i => if i = 0 then vr else vi) ⟨_, hb0, rfl, fun i hi => by rcases (by omega : i = 0 ∨ i = 1) with rfl | rfl <;> rfl⟩ 0 v2)
      obtain ⟨cs, h1, h2, h3⟩ := this
      rw [h1]
      have : cs = #[v2, vi] := by
       apply Array.ext_getElem?
       intro i
       by_cases hi : i < 2
       ·rcases (by omega : i = 0 ∨ i = 1) with rfl | rfl
        ·rw [h3 0 (by omega)]; rfl
        ·rw [h3 1 (by omega)]; rfl
       ·rw [Array.getElem?_eq_none (by omega), Array.getElem?_eq_none (by simp; omega)]
      rw [this]
     ·have h1 := owns_keeps ho hs (fun g hg e => by subst e; exact absurd (owns_type ho hg hb0) (by decide))
      simpa using h1
     ·exact owns_keeps ht4 hs (fun g hg e => by subst e; exact absurd (owns_type ht4 hg hb0) (by decide))
     ·intro q hq
      rcases List.mem_append.1 hq with hq | hq
      ·have h1 := (HT5.out q hq).keeps hk (fun g hg hX => by
        obtain ⟨cs, fz, hcs⟩ := ownsRow_kind HT3.out g hX
        have h1 := owns_type HT3.out hX hcs
        rcases (HT5.out q hq).type hg hcs with h | h | h <;> exact absurd (h1.symm.trans h) (by decide))
       exact h1.keeps hs (fun g hg e => by subst e; rcases h1.type hg hb0 with h | h | h <;> exact absurd h (by decide))
      ·rw [List.mem_singleton.1 hq]
       exact hown.keeps hs (fun g hg e => by subst e; rcases hown.type hg hb0 with h | h | h <;> exact absurd h (by decide))
    have h6' : (w1.setCell ⟨w.heap.size, 0, none⟩ v2).heap[w.heap.size + 1]? = some (.cells #[.pointer (some ⟨w.heap.size, 0, none⟩)] 23 (0, 0)) := (Below.heap_setCell _ _ _ _ (by simp)).trans hb6
    have hco' : (Rs ++ [r']).map RuleD.core = (R.take (k + 1)).map RuleD.core := by rw [take_snoc R k hlt, List.map_append, List.map_append, HCO.out, HR.out]; simp [hsame.core]
    have hal' : ∀ x ∈ R.take (k + 1), rchk x rates = 0 := by
     intro x hx
     rw [take_snoc R k hlt] at hx
     rcases List.mem_append.1 hx with hx | hx
     ·exact HAL.out x hx
     ·rw [List.mem_singleton.1 hx, HR.out]; exact HZ.out
    generalize (w1.setCell ⟨w.heap.size, 0, none⟩ v2) = W3 at *
    clear hs hk ho hown hb0 hb6 hne0 hne6 hvi ht4 HL6 HLR HLB HT2 HT3 HT4 HT5 H62 HE2 HOK2
    generalize Rs ++ [r'] = Rs' at *
    go_upto_region 11 with (fail)
    have HCO2 := hide hco'
    have HAL2 := hide hal'
    have HE3 := hide hE3
    clear hco' hal' hE3
    obtain ⟨-, ⟨vr3, vi3, hS2, hS3, hS4⟩, hS5⟩ := hT'
    have hl6 : ∀ vs X, PhB w.heap.size W3 vi3 (upTo k) k vs X → X.cell? ⟨w.heap.size + 1, 0, none⟩ = some (.pointer (some ⟨w.heap.size, 0, none⟩)) := by
     have hbl : ∀ X : World, X.heap[w.heap.size + 1]? = some (.cells #[.pointer (some ⟨w.heap.size, 0, none⟩)] 23 (0, 0)) → X.cell? ⟨w.heap.size + 1, 0, none⟩ = some (.pointer (some ⟨w.heap.size, 0, none⟩)) := fun X hX => by
      simp only [World.cell?, hX]
      rfl
     have hlt6 := (Array.getElem?_eq_some_iff.1 h6').1
     have hne6 : ¬ vi3.ownBlock = some (w.heap.size + 1) := fun e => absurd (owns_type hS4 e h6') (by decide)
     intro vs X h
     apply hbl
     rcases vs with _ | ⟨s, _ | ⟨v, _ | ⟨z, _ | ⟨y, vs⟩⟩⟩⟩
     ·exact (h.block _ hlt6).trans h6'
     ·exact (h.1.block _ hlt6).trans h6'
     ·obtain ⟨x, y, -, -, hk⟩ := h
      exact (hk.block _ hlt6 hne6).trans h6'
     ·obtain ⟨w1, -, hk, rfl⟩ := h
      exact (Below.heap_setCell _ _ _ _ (by simp)).trans ((hk.block _ hlt6 hne6).trans h6')
     ·exact h.elim
    have hlr : ∀ vs X, vs.length ≤ 1 → PhB w.heap.size W3 vi3 (upTo k) k vs X → X.cell? ⟨w.heap.size, 1, none⟩ = some vi3 := by
     have hbl : ∀ X : World, X.heap[w.heap.size]? = some (.cells #[vr3, vi3] 78 (0, 0)) → X.cell? ⟨w.heap.size, 1, none⟩ = some vi3 := fun X hX => by
      simp only [World.cell?, hX]
      rfl
     have hlt0 := (Array.getElem?_eq_some_iff.1 hS2).1
     intro vs X hn h
     apply hbl
     rcases vs with _ | ⟨s, _ | ⟨v, vs⟩⟩
     ·exact (h.block _ hlt0).trans hS2
     ·exact (h.1.block _ hlt0).trans hS2
     ·simp at hn
    have HL6 := hide hl6
    have HLR := hide hlr
    have HT2 := hide hS2
    have HT3 := hide hS3
    have HT4 := hide hS4
    have HT5 := hide hS5
    have H62 := hide h6'
    obtain ⟨ii, hii0, hii1, hii2, hii3⟩ := info_partsS Tryd.infoI
    clear hl6 hlr hS2 hS3 hS4 hS5 h6'
    refine wp_region_ph 57 [6, 7, 10] (PhB w.heap.size W3 vi3 (upTo k) k) (fun t v => match t with | 0 => v = .slice (some ⟨b, off, none⟩) R.length c | 1 => v = .int .i64 rates | 2 => v = undef | 3 => v = undef | 6 => v = .pointer (some ⟨w.heap.size + 1, 0, none⟩) | 7 => v = .int .i64 k | 8 => v = .pointer (some ⟨wr.heap.size, 0, none⟩) | 10 => v = .slice (some ⟨b, off, none⟩) R.length c | 11 => v = .int .i64 R.length | 12 => v = .bool false | 13 => v = .agg #[.slice none 0 0, .slice none 0 0] | 14 => v = .pointer (some ⟨w.heap.size, 0, none⟩) | 15 => v = .slice (some ⟨b, off, none⟩) R.length c | 16 => v = .int .i64 R.length | 17 => v = .int .i64 k | 39 => v = .pointer (some ⟨w.heap.size, 0, none⟩) | 40 => v = .pointer (some ⟨w.heap.size, 0, none⟩) | 41 => v = .pointer (some ⟨w.heap.size, 0, none⟩) | 42 => v = .pointer (some ⟨w.heap.size, 1, none⟩) | 43 => v = vi3 | 44 => v = .int .i64 k | 47 => v = .pointer (some ⟨w.heap.size, 0, none⟩) | 48 => v = .pointer (some ⟨w.heap.size, 1, none⟩) | 50 => v = undef | 51 => v = undef | 52 => v = undef | 53 => v = undef | 54 => v = undef | 55 => v = undef | 56 => v = undef | _ => True) (by kernel_rfl) rfl (by kernel_rfl) (by kernel_rfl) (by kernel_rfl) ?_ ?_ ?_ ?_ ?_
    ·exact (Below.refl _ _).drew
    ·intro t ht hno
     have hi : t = 0 ∨ t = 1 ∨ t = 2 ∨ t = 3 ∨ t = 4 ∨ t = 5 ∨ t = 6 ∨ t = 7 ∨ t = 8 ∨ t = 9 ∨ t = 10 ∨ t = 11 ∨ t = 12 ∨ t = 13 ∨ t = 14 ∨ t = 15 ∨ t = 16 ∨ t = 17 ∨ t = 18 ∨ t = 19 ∨ t = 20 ∨ t = 21 ∨ t = 22 ∨ t = 23 ∨ t = 24 ∨ t = 25 ∨ t = 26 ∨ t = 27 ∨ t = 28 ∨ t = 29 ∨ t = 30 ∨ t = 31 ∨ t = 32 ∨ t = 33 ∨ t = 34 ∨ t = 35 ∨ t = 36 ∨ t = 37 ∨ t = 38 ∨ t = 39 ∨ t = 40 ∨ t = 41 ∨ t = 42 ∨ t = 43 ∨ t = 44 ∨ t = 45 ∨ t = 46 ∨ t = 47 ∨ t = 48 ∨ t = 49 ∨ t = 50 ∨ t = 51 ∨ t = 52 ∨ t = 53 ∨ t = 54 ∨ t = 55 ∨ t = 56 := by omega
     rcases hi with rfl | rfl | rfl | rfl | rfl | rfl | rfl | rfl | rfl | rfl | rfl | rfl | rfl | rfl | rfl | rfl | rfl | rfl | rfl | rfl | rfl | rfl | rfl | rfl | rfl | rfl | rfl | rfl | rfl | rfl | rfl | rfl | rfl | rfl | rfl | rfl | rfl | rfl | rfl | rfl | rfl | rfl | rfl | rfl | rfl | rfl | rfl | rfl | rfl | rfl | rfl | rfl | rfl | rfl | rfl | rfl | rfl
     all_goals first | exact rfl | exact True.intro | exact absurd (hno.symm.trans (by kernel_rfl) : true = false) (by decide)
    ·intro i o ho hmi vs X w' hpk hph hX hI K hK
     have hin : i < 11 := (Array.getElem?_eq_some_iff.1 ho).1
     have hi : i = 0 ∨ i = 1 ∨ i = 2 ∨ i = 3 ∨ i = 4 ∨ i = 5 ∨ i = 6 ∨ i = 7 ∨ i = 8 ∨ i = 9 ∨ i = 10 := by omega
     rcases hi with rfl | rfl | rfl | rfl | rfl | rfl | rfl | rfl | rfl | rfl | rfl
     ·obtain rfl := Option.some.inj ho
      have e6 : X 6 = _ := hI 6 (by kernel_rfl)
      have c0 := HL6.out vs w' hph
      unfold wpOp
      simp only [ho]
      rw [if_pos (by rfl)]
      left
      rw [frame57]
      go_simp
      refine metK (hK.out (.pointer (some ⟨w.heap.size, 0, none⟩)) (fun d hd => by cases hd; exact rfl)) ?_
      simp [frame57, Act.put, *]
     ·obtain rfl := Option.some.inj ho
      have e6 : X 6 = _ := hI 6 (by kernel_rfl)
      have c0 := HL6.out vs w' hph
      unfold wpOp
      simp only [ho]
      rw [if_pos (by rfl)]
      left
      rw [frame57]
      go_simp
      refine metK (hK.out (.pointer (some ⟨w.heap.size, 0, none⟩)) (fun d hd => by cases hd; exact rfl)) ?_
      simp [frame57, Act.put, *]
     ·obtain rfl := Option.some.inj ho
      have e40 : X 40 = _ := hI 40 (by kernel_rfl)
      unfold wpOp
      simp only [ho]
      rw [if_pos (by rfl)]
      left
      rw [frame57]
      go_simp
      refine metK (hK.out (.pointer (some ⟨w.heap.size, 0, none⟩)) (fun d hd => by cases hd; exact rfl)) ?_
      simp [frame57, Act.put, *]
     ·obtain rfl := Option.some.inj ho
      have e41 : X 41 = _ := hI 41 (by kernel_rfl)
      unfold wpOp
      simp only [ho]
      rw [if_pos (by rfl)]
      left
      rw [frame57]
      go_simp
      refine metK (hK.out (.pointer (some ⟨w.heap.size, 1, none⟩)) (fun d hd => by cases hd; exact rfl)) ?_
      simp [frame57, Act.put, *]
     ·obtain rfl := Option.some.inj ho
      have e42 : X 42 = _ := hI 42 (by kernel_rfl)
      have c0 := HLR.out vs w' ((hpk 1 (by decide)).2 (by kernel_rfl)) hph
      unfold wpOp
      simp only [ho]
      rw [if_pos (by rfl)]
      left
      rw [frame57]
      go_simp
      refine metK (hK.out (vi3) (fun d hd => by cases hd; exact rfl)) ?_
      simp [frame57, Act.put, *]
     ·obtain rfl := Option.some.inj ho
      have e7 : X 7 = _ := hI 7 (by kernel_rfl)
      unfold wpOp
      simp only [ho]
      rw [if_pos (by rfl)]
      left
      rw [frame57]
      go_simp
      refine metK (hK.out (.int .i64 k) (fun d hd => by cases hd; exact rfl)) ?_
      simp [frame57, Act.put, *]
     ·exact absurd hmi (by decide)
     ·exact absurd hmi (by decide)
     ·obtain rfl := Option.some.inj ho
      have e39 : X 39 = _ := hI 39 (by kernel_rfl)
      unfold wpOp
      simp only [ho]
      rw [if_pos (by rfl)]
      left
      rw [frame57]
      go_simp
      refine metK (hK.out (.pointer (some ⟨w.heap.size, 0, none⟩)) (fun d hd => by cases hd; exact rfl)) ?_
      simp [frame57, Act.put, *]
     ·obtain rfl := Option.some.inj ho
      have e47 : X 47 = _ := hI 47 (by kernel_rfl)
      unfold wpOp
      simp only [ho]
      rw [if_pos (by rfl)]
      left
      rw [frame57]
      go_simp
      refine metK (hK.out (.pointer (some ⟨w.heap.size, 1, none⟩)) (fun d hd => by cases hd; exact rfl)) ?_
      simp [frame57, Act.put, *]
     ·exact absurd hmi (by decide)
    ·intro i o ho hmi vs X w' hqi hql hph hX hI K hK
     rcases vs with _ | ⟨v0, _ | ⟨v1, _ | ⟨v2, _⟩⟩⟩
     ·obtain rfl : 6 = i := hqi
      obtain rfl := Option.some.inj ho
      have e44 : X 44 = _ := hI 44 (by kernel_rfl)
      unfold wpOp
      simp only [ho]
      rw [if_pos (by rfl)]
      left
      rw [frame57]
      go_simp
      refine metK (hK.out (.slice (some ⟨w'.heap.size, 0, none⟩) 1 1) _ ⟨hph.trans ((Below.refl _ w').alloc (Nat.le_refl _) _), ints_new1 w' _ _⟩) ?_
      simp [frame57, Act.put, *]
     ·obtain rfl : 7 = i := hqi
      obtain rfl := Option.some.inj ho
      have e43 : X 43 = _ := hI 43 (by kernel_rfl)
      have e45 : X 45 = v0 := hX 0 45 (by simp) (by kernel_rfl)
      obtain ⟨hE1, hsl⟩ := hph
      unfold wpOp
      simp only [ho]
      rw [if_pos (by rfl)]
      left
      rw [frame57]
      refine wp_append_sl (enc := encI) _ _ _ rfl w.heap.size 3 ii (.int .i64 0) 1 8 Tryd.underlying22 hii0 hii1 hii2 hii3 rfl (by decide) (fun _ => rfl) vi3 (upTo k).length ((upTo k).flatMap encI) e43 (owns_ext HT4.out hE1) _ e45 [(k : Int)] hsl (fun x hx => encI_one x) (by rw [upTo_len]; unfold maxLen; have := H20.out; simp; omega) (by rw [upTo_len]; have := H20.out; simp; omega) (Nat.le_trans HE3.out.size hE1.size) ?_
      intro v' w'' hwn hg
      obtain ⟨x, y, rfl⟩ := owns_shape hwn
      have hk : Keeps (fun g => vi3.ownBlock = some g) w' w'' := Keeps.of_grown hg (fun g h => h)
      refine metK (hK.out (.slice x ((upTo k).length + 1) y) w'' ⟨x, y, rfl, by simpa [encI] using hwn, (Keeps.of_ext hE1).trans hk⟩) ?_
      simp [frame57, Act.put, *]
     ·obtain rfl : 10 = i := hqi
      obtain rfl := Option.some.inj ho
      have e46 : X 46 = v1 := hX 1 46 (by simp) (by kernel_rfl)
      have e48 : X 48 = _ := hI 48 (by kernel_rfl)
      obtain ⟨x, y, rfl, hwn, hk⟩ := hph
      have hne0 : ¬ vi3.ownBlock = some w.heap.size := fun e => absurd (owns_type HT4.out e HT2.out) (by decide)
      have hb0 := (hk.block _ (Array.getElem?_eq_some_iff.1 HT2.out).1 hne0).trans HT2.out
      have c0 : w'.cell? ⟨w.heap.size, 1, none⟩ = some vi3 := by simp only [World.cell?, hb0]; rfl
      have z0 : w'.frozen? ⟨w.heap.size, 1, none⟩ = false := by simp [World.frozen?, hb0]
      unfold wpOp
      simp only [ho]
      rw [if_pos (by rfl)]
      left
      rw [frame57]
      go_simp
      refine metK (hK.out undef _ ⟨w', hwn, hk, rfl⟩) ?_
      simp [frame57, Act.put, *]
     ·simp at hql <;> omega
    ·intro vs X w' hlen hph hX hI
     have e0 : X 0 = _ := hI 0 (by omega) (by kernel_rfl)
     have e1 : X 1 = _ := hI 1 (by omega) (by kernel_rfl)
     have e2 : X 2 = _ := hI 2 (by omega) (by kernel_rfl)
     have e3 : X 3 = _ := hI 3 (by omega) (by kernel_rfl)
     have e6 : X 6 = _ := hI 6 (by omega) (by kernel_rfl)
     have e7 : X 7 = _ := hI 7 (by omega) (by kernel_rfl)
     have e8 : X 8 = _ := hI 8 (by omega) (by kernel_rfl)
     have e10 : X 10 = _ := hI 10 (by omega) (by kernel_rfl)
     have e11 : X 11 = _ := hI 11 (by omega) (by kernel_rfl)
     have e12 : X 12 = _ := hI 12 (by omega) (by kernel_rfl)
     have e13 : X 13 = _ := hI 13 (by omega) (by kernel_rfl)
     have e14 : X 14 = _ := hI 14 (by omega) (by kernel_rfl)
     have e15 : X 15 = _ := hI 15 (by omega) (by kernel_rfl)
     have e16 : X 16 = _ := hI 16 (by omega) (by kernel_rfl)
     have e17 : X 17 = _ := hI 17 (by omega) (by kernel_rfl)
     have e39 : X 39 = _ := hI 39 (by omega) (by kernel_rfl)
     have e40 : X 40 = _ := hI 40 (by omega) (by kernel_rfl)
     have e41 : X 41 = _ := hI 41 (by omega) (by kernel_rfl)
     have e42 : X 42 = _ := hI 42 (by omega) (by kernel_rfl)
     have e43 : X 43 = _ := hI 43 (by omega) (by kernel_rfl)
     have e44 : X 44 = _ := hI 44 (by omega) (by kernel_rfl)
     have e47 : X 47 = _ := hI 47 (by omega) (by kernel_rfl)
     have e48 : X 48 = _ := hI 48 (by omega) (by kernel_rfl)
     have e50 : X 50 = _ := hI 50 (by omega) (by kernel_rfl)
     have e51 : X 51 = _ := hI 51 (by omega) (by kernel_rfl)
     have e52 : X 52 = _ := hI 52 (by omega) (by kernel_rfl)
     have e53 : X 53 = _ := hI 53 (by omega) (by kernel_rfl)
     have e54 : X 54 = _ := hI 54 (by omega) (by kernel_rfl)
     have e55 : X 55 = _ := hI 55 (by omega) (by kernel_rfl)
     have e56 : X 56 = _ := hI 56 (by omega) (by kernel_rfl)
     rcases vs with _ | ⟨v0, _ | ⟨v1, _ | ⟨v2, _ | ⟨vz, vs⟩⟩⟩⟩
     ·simp at hlen
     ·simp at hlen
     ·simp at hlen
     rotate_left
     ·simp at hlen
     have e45 : X 45 = v0 := hX 0 45 (by simp) (by kernel_rfl)
     have e46 : X 46 = v1 := hX 1 46 (by simp) (by kernel_rfl)
     clear hX hI hlen
     rw [frame57]
     simp only [e0, e1, e2, e3, e6, e7, e8, e10, e11, e12, e13, e14, e15, e16, e17, e39, e40, e41, e42, e43, e44, e45, e46, e47, e48, e50, e51, e52, e53, e54, e55, e56]
     obtain ⟨w1, hwn, hk, rfl⟩ := hph
     have hne0 : ¬ vi3.ownBlock = some w.heap.size := fun e => absurd (owns_type HT4.out e HT2.out) (by decide)
     have hne6 : ¬ vi3.ownBlock = some (w.heap.size + 1) := fun e => absurd (owns_type HT4.out e H62.out) (by decide)
     have hb0 := (hk.block _ (Array.getElem?_eq_some_iff.1 HT2.out).1 hne0).trans HT2.out
     have hb6 := (hk.block _ (Array.getElem?_eq_some_iff.1 H62.out).1 hne6).trans H62.out
     have hs := Keeps.of_set (X := fun g => g = w.heap.size) w1 w.heap.size 1 v1 rfl
     have hE4 : Ext w (w1.setCell ⟨w.heap.size, 1, none⟩ v1) := Keeps.ext (Keeps.ext HE3.out hk (fun g hg => (HT4.out.lt g hg).1)) hs (fun g hg => by omega)
     have hvi : ∀ g, vr3.ownBlock = some g → ¬ vi3.ownBlock = some g := fun g h1 h2 => owns_ne HT3.out HT4.out (by decide) g h1 h2
     have ht3 := owns_keeps HT3.out hk hvi
     have hT' : TabAt w.heap.size (w1.setCell ⟨w.heap.size, 1, none⟩ v1) w.heap.size Rs' (upTo (k + 1)) := by
      refine ⟨Nat.le_refl _, ⟨vr3, v1, ?_, ?_, ?_⟩, ?_⟩
      ·have := (Arr.set (t := 78) (n := 2) (f := fun i => if i = 0 then vr3 else vi3) ⟨_, hb0, rfl, fun i hi => by rcases (by omega : i = 0 ∨ i = 1) with rfl | rfl <;> rfl⟩ 1 v1)
       obtain ⟨cs, h1, h2, h3⟩ := this
       rw [h1]
       have : cs = #[vr3, v1] := by
        apply Array.ext_getElem?
        intro i
        by_cases hi : i < 2
        ·rcases (by omega : i = 0 ∨ i = 1) with rfl | rfl
         ·rw [h3 0 (by omega)]; rfl
         ·rw [h3 1 (by omega)]; rfl
        ·rw [Array.getElem?_eq_none (by omega), Array.getElem?_eq_none (by simp; omega)]
       rw [this]
      ·exact owns_keeps ht3 hs (fun g hg e => by subst e; exact absurd (owns_type ht3 hg hb0) (by decide))
      ·have h1 := owns_keeps hwn hs (fun g hg e => by subst e; exact absurd (owns_type hwn hg hb0) (by decide))
       rw [upTo_succ]
       simpa [encI] using h1
      ·intro q hq
       have h1 := (HT5.out q hq).keeps hk (fun g hg hX => by
        obtain ⟨cs, fz, hcs⟩ := ownsRow_kind HT4.out g hX
        have h1 := owns_type HT4.out hX hcs
        rcases (HT5.out q hq).type hg hcs with h | h | h <;> exact absurd (h1.symm.trans h) (by decide))
       exact h1.keeps hs (fun g hg e => by subst e; rcases h1.type hg hb0 with h | h | h <;> exact absurd h (by decide))
     have h6' : (w1.setCell ⟨w.heap.size, 1, none⟩ v1).heap[w.heap.size + 1]? = some (.cells #[.pointer (some ⟨w.heap.size, 0, none⟩)] 23 (0, 0)) := (Below.heap_setCell _ _ _ _ (by simp)).trans hb6
     generalize (w1.setCell ⟨w.heap.size, 1, none⟩ v1) = W4 at *
     clear hs hk hwn hb0 hb6 hne0 hne6 hvi ht3 HL6 HLR HT2 HT3 HT4 HT5 H62 HE3
     have HT9 := hide hT'
     have H69 := hide h6'
     have HE9 := hide hE4
     clear hT' h6' hE4
     go_wp2
     go_roundw
     case rel => exact ⟨k + 1, Rs', hlt, by go_num, HE9.out, HT9.out, H69.out, HCO2.out, HAL2.out⟩
     case measure => simp [intOf]; omega


  ·obtain rfl : k = R.length := by omega
   have hco := HCO.out
   rw [List.take_length] at hco
   have hal : ∀ x ∈ R, rchk x rates = 0 := fun x hx => HAL.out x (by rw [List.take_length]; exact hx)
   have hnz := nerr_all R rates H20.out hal
   have hkm := keyR_map hco
   have hlen := core_len hco
   obtain ⟨-, ⟨vr, vi, hT2, hT3, hT4⟩, hT5⟩ := HT.out
   have h6 := H6.out
   have c6 : wr.cell? ⟨w.heap.size + 1, 0, none⟩ = some (.pointer (some ⟨w.heap.size, 0, none⟩)) := by
    simp only [World.cell?, h6]
    rfl
   have c1 : wr.cell? ⟨w.heap.size, 1, none⟩ = some vi := by
    simp only [World.cell?, hT2]
    rfl
   have c0 : wr.cell? ⟨w.heap.size, 0, none⟩ = some vr := by
    simp only [World.cell?, hT2]
    rfl
   have HC6 := hide c6
   have HC0 := hide c0
   have HT2 := hide hT2
   have HT3 := hide hT3
   have HT4 := hide hT4
   have HT5 := hide hT5
   have HKM := hide hkm
   have HLE := hide hlen
   have HNZ := hide hnz
   have HCZ := hide hco
   clear hT2 hT3 hT4 hT5 hkm hlen hnz hco hal c0 h6 HCO HAL
   by_cases hn0 : R.length = 0
   ·have hR : R = [] := List.eq_nil_of_length_eq_zero hn0
    have hrow : rowR R = upTo R.length := by
     have hp := (rowL_spec (cfK_swo (R.map keyR)) R.length).1
     unfold rowR
     rw [hn0] at hp ⊢
     exact List.perm_nil.1 hp
    obtain ⟨av, cv, hv⟩ : ∃ a c, vi = .slice a 0 c := by
     obtain ⟨a, c, h⟩ := owns_shape HT4.out
     rw [upTo_len, hn0] at h
     exact ⟨a, c, h⟩
    have HRW := hide hrow
    have HN0 := hide hn0
    clear hrow hn0 hR
    subst hv
    go_wp2_with fail
    refine (ssort0_any av cv _ _ wr).mono ?_
    rintro e w9 ⟨rfl, rfl⟩
    go_wp2
    go_ret2
    refine ⟨hE, .inr ⟨HNZ.out, w.heap.size, Rs, rfl, ?_, HCZ.out⟩⟩
    rw [HRW.out]
    exact HT.out
   ·obtain ⟨gi, ci, hv, hcap⟩ : ∃ g c, vi = .slice (some ⟨g, 0, none⟩) R.length c ∧ c ≤ maxLen := by
     have h := HT4.out
     rw [upTo_len] at h
     exact owns_form h (by omega)
    obtain ⟨gr, cr, hvr, -⟩ : ∃ g c, vr = .slice (some ⟨g, 0, none⟩) R.length c ∧ c ≤ maxLen := by
     have h := owns_form HT3.out (by rw [HLE.out]; omega)
     rw [HLE.out] at h
     exact h
    subst hv hvr
    have hgi := (HT4.out.lt gi rfl)
    have hri : RowI wr gi ci (upTo R.length).toArray := RowI.of_own HT4.out (by rw [upTo_len])
    have hbi : ∃ cs fz, wr.heap[gi]? = some (.cells cs 3 fz) := ownsRow_kind HT4.out gi rfl
    have hne0 : w.heap.size ≠ gi := fun e => by
     obtain ⟨cs, fz, h⟩ := hbi
     rw [← e, HT2.out] at h
     cases h
    have hne6 : w.heap.size + 1 ≠ gi := fun e => by
     obtain ⟨cs, fz, h⟩ := hbi
     rw [← e, H6.out] at h
     cases h
    have hner : gr ≠ gi := fun e => by
     obtain ⟨cs, fz, h⟩ := hbi
     rw [← e] at h
     exact absurd (owns_type HT3.out rfl h) (by decide)
    have hcells : ∀ q (hq : q < Rs.length) j u, (encR Rs[q])[j]? = some u → wr.cell? ⟨gr, q * 19 + j, none⟩ = some u := fun q hq j u hu => by
     have := HT3.out.cells (g := gr) rfl (q * 19 + j) u (getElem?_flatMap_enc encR_len Rs q j Rs[q] u (List.getElem?_eq_getElem hq) hu)
     rw [add_cell] at this
     exact this
    have hlt0 := (Array.getElem?_eq_some_iff.1 HT2.out).1
    have hlt6 := (Array.getElem?_eq_some_iff.1 H6.out).1
    have hltr := (HT3.out.lt gr rfl).2
    have hcmp : CmpOk wr gi R.length (.func (.func 48) #[] #[.pointer (some ⟨w.heap.size + 1, 0, none⟩)]) (cfK (R.map keyR)) := by
     refine ⟨_, _, rfl, fun args X => by kernel_rfl, ?_⟩
     intro X hX x y hx1 hx2 hy1 hy2
     obtain ⟨ka, rfl⟩ := Int.eq_ofNat_of_zero_le hx1
     obtain ⟨kb, rfl⟩ := Int.eq_ofNat_of_zero_le hy1
     rw [← HKM.out]
     exact rowcmp_any X w.heap.size (w.heap.size + 1) gr cr R.length Rs HLE.out (by have := H20.out; omega) ((hX.cell hlt6 hne6).trans HC6.out) ((hX.cell hlt0 hne0).trans HC0.out)
      (fun q hq j u hu => (hX.cell hltr hner).trans (hcells q hq j u hu)) (fun q hq => owns_shape (HT5.out q hq).1) ka kb (by omega) (by omega)
    have hin : InR R.length (upTo R.length).toArray := fun i hi => by
     have : i < R.length := by simpa [upTo] using hi
     rw [upTo_get R.length i this]
     omega
    have hss := ssort_any R.length gi ci R.length (upTo R.length).toArray _ (cfK (R.map keyR)) wr hin hcmp hri (by simp [upTo]) (by have := H20.out; omega)
    have HSS := hide hss
    have HGI := hide hgi
    have HBI := hide hbi
    have HCAP := hide hcap
    clear hss hcmp hin hcells hri hbi hlt0 hlt6 hltr hgi hcap
    rw [upTo_len] at HT4
    go_wp2_with fail
    refine HSS.out.mono ?_
    rintro e w9 ⟨rfl, hr9, hk9⟩
    have h69 := (hk9.block _ (Array.getElem?_eq_some_iff.1 H6.out).1 hne6).trans H6.out
    have c69 : w9.cell? ⟨w.heap.size + 1, 0, none⟩ = some (.pointer (some ⟨w.heap.size, 0, none⟩)) := by
     simp only [World.cell?, h69]
     rfl
    have HR9 := hide hr9
    have HK9 := hide hk9
    clear hr9 hk9 h69
    go_wp2
    go_ret2
    have hsz9 : (Go.Sort.insertionSort (ltOf (cfK (R.map keyR))) (upTo R.length).toArray 0 (upTo R.length).toArray.size).size = R.length := by
     have := (isort_inR (ltOf (cfK (R.map keyR))) R.length (upTo R.length).toArray (fun i hi => by
      have : i < R.length := by simpa [upTo] using hi
      rw [upTo_get R.length i this]
      omega)).1
     rw [this]
     simp [upTo]
    have hun : (upTo R.length).toArray.size = R.length := by simp [upTo]
    refine ⟨Keeps.ext hE HK9.out (fun g hg => by have := HGI.out.1; omega), .inr ⟨HNZ.out, w.heap.size, Rs, rfl, ⟨Nat.le_refl _, ⟨_, .slice (some ⟨gi, 0, none⟩) R.length ci, (HK9.out.block _ (Array.getElem?_eq_some_iff.1 HT2.out).1 hne0).trans HT2.out, ?_, ?_⟩, ?_⟩, HCZ.out⟩⟩
    ·exact owns_keeps HT3.out HK9.out (fun g hg e => by
      have h : gr = g := by simpa [Value.ownBlock] using hg
      exact hner (h.trans e))
    ·have := HR9.out.owns (B := w.heap.size) HGI.out.1 HCAP.out
     rw [hsz9] at this
     have e : (Go.Sort.insertionSort (ltOf (cfK (R.map keyR))) (upTo R.length).toArray 0 (upTo R.length).toArray.size).toList = rowR R := by
      unfold rowR rowL
      rw [hun]
     rw [e] at this
     exact this
    ·intro q hq
     refine (HT5.out q hq).keeps HK9.out (fun g hg e => ?_)
     obtain ⟨cs, fz, h⟩ := HBI.out
     rw [← e] at h
     rcases (HT5.out q hq).type hg h with h' | h' | h' <;> exact absurd h' (by decide)
end Go.Proofs.YtceaeiaoanhlnaaDoor

/- Table.Find, Table.Len; ref08.New. -/
namespace Go.Proofs.YtceaeiaoanhlnaaDoor
open Go.ChangeShapes Go.WideShapes Go.ChangeAt Go.RowKit Go.Lib Go.Shelf
def fitR (r : RuleD) (p : List UInt8) (H : List HeadD) : Bool := fitsB (bl r.path) r.ex r.H p H
def fitAt (Rs : List RuleD) (p : List UInt8) (H : List HeadD) (i : Int) : Bool := match Rs[i.toNat]? with | some r => fitR r p H | none => false
def findI (Rs : List RuleD) (I : List Int) (p : List UInt8) (H : List HeadD) : Option Int := I.find? (fitAt Rs p H)
theorem tab_cells {B b : Nat} {w : World} {Rs : List RuleD} {I : List Int} (h : TabAt B w b Rs I) : ∃ vr vi, w.cell? ⟨b, 0, none⟩ = some vr ∧ w.cell? ⟨b, 1, none⟩ = some vi ∧ Rules w vr Rs ∧ Ints w vi I ∧ b < w.heap.size ∧ w.heap[b]? = some (.cells #[vr, vi] 78 (0, 0)) := by
 obtain ⟨-, ⟨vr, vi, h1, h2, h3⟩, -⟩ := h
 refine ⟨vr, vi, ?_, ?_, Sl.of_own' encR_len h2, Sl.of_own' (enc := encI) (fun _ => rfl) h3, (Array.getElem?_eq_some_iff.1 h1).1, h1⟩
 ·simp only [World.cell?, h1]; rfl
 ·simp only [World.cell?, h1]; rfl
set_option maxRecDepth 100000 in
set_option maxHeartbeats 4000000 in
theorem find_any (B b : Nat) (Rs : List RuleD) (I : List Int) (p : ByteArray) (H : List HeadD) (hv : Value) (w : World) (hT : TabAt B w b Rs I) (hI : ∀ x ∈ I, 0 ≤ x ∧ x < Rs.length) (hp : SzB p) (hm : MaxV w) (hh : Heads w hv H) :
  Calls Tryd.prog 9 #[.pointer (some ⟨b, 0, none⟩), .string p, hv] w fun e w' => e = .returned (.tuple #[.int .i64 ((findI Rs I (bl p) H).getD 0), .bool (findI Rs I (bl p) H).isSome]) ∧ Ext w w' := by
 obtain ⟨vr, vi, c0, c1, hR, hi, hb, -⟩ := tab_cells hT
 have hown := hT.2.2
 obtain ⟨hlr, ar, cr, rfl⟩ := hR.shape
 obtain ⟨hli, ai, ci, rfl⟩ := hi.shape
 obtain ⟨_, ah, ch, rfl⟩ := hh.shape
 have HR := hide hR
 have HI := hide hi
 have HIN := hide hI
 have HH := hide hh
 have HM := hide hm
 have HO := hide hown
 have HP := hide hp
 have C0 := hide c0
 clear hR hi hI hh hm hown hT hp c0
 go_enter Tryd.func9, Tryd.ntmps9
 go_wp2_with fail
 go_loopw [15] (fun i wr => ∃ k : Nat, k ≤ I.length ∧ i = .int .i64 k ∧ findI Rs I (bl p) H = findI Rs (I.drop k) (bl p) H ∧ Ext w wr) (fun i _ => I.length - (intOf i).toNat)
 case atStart => exact ⟨0, by omega, rfl, by simp, Below.refl _ _⟩
 case round =>
  obtain ⟨k, hk, rfl, hok, hext⟩ := hrel
  have HOK := hide hok
  clear hok
  by_cases hlt : k < I.length
  ·obtain ⟨bi, oi, rfl, hbi, hci⟩ := ints_at HI.out k hlt
   obtain ⟨x, hx⟩ : ∃ x, I[k] = x := ⟨_, rfl⟩
   rw [hx] at hci
   have hci' := (hext.cell (p := ⟨bi, oi + k, none⟩) hbi).trans hci
   have hxr := HIN.out x (by rw [← hx]; exact List.getElem_mem hlt)
   obtain ⟨n, rfl⟩ := Int.eq_ofNat_of_zero_le hxr.1
   have hn : n < Rs.length := by omega
   obtain ⟨br, orr, rfl, hbr, hcr⟩ := rules_at HR.out n hn
   obtain ⟨r, hr⟩ : ∃ r, Rs[n] = r := ⟨_, rfl⟩
   have hro := HO.out r (by rw [← hr]; exact List.getElem_mem hn)
   rw [hr] at hcr
   have d0 := (hext.cell (p := ⟨br, orr + n * 19, none⟩) hbr).trans (hcr 0 _ rfl)
   have d1 := (hext.cell (p := ⟨br, orr + n * 19 + 1, none⟩) hbr).trans (hcr 1 _ rfl)
   have d2 := (hext.cell (p := ⟨br, orr + n * 19 + 2, none⟩) hbr).trans (hcr 2 _ rfl)
   have cc0 := (hext.cell (p := ⟨b, 0, none⟩) hb).trans C0.out
   obtain ⟨ax, cx, hhv⟩ := owns_shape hro.1
   have hf := fits_any r.path p r.ex r.H H r.hv (.slice ah H.length ch) wr HP.out (HM.out.ext hext) (hro.ok.ext hext).1 (HH.out.ext hext)
   rw [hhv] at d2 hf
   have hdrop : I.drop k = (n : Int) :: I.drop (k + 1) := by rw [← hx]; exact List.drop_eq_getElem_cons hlt
   have hat : fitAt Rs (bl p) H n = fitsB (bl r.path) r.ex r.H (bl p) H := by
    unfold fitAt fitR
    simp [List.getElem?_eq_getElem hn, hr]
   obtain ⟨f, hfe⟩ : ∃ f, fitsB (bl r.path) r.ex r.H (bl p) H = f := ⟨_, rfl⟩
   rw [hfe] at hf hat
   have hnx : findI Rs (I.drop k) (bl p) H = if f = true then some (n : Int) else findI Rs (I.drop (k + 1)) (bl p) H := by
    rw [hdrop]
    unfold findI
    rw [List.find?_cons, hat]
    cases f <;> rfl
   have HF := hide hf
   have HNX := hide (HOK.out.trans hnx)
   have hltz : (k : Int) < I.length := by omega
   have hnz : (n : Int) < Rs.length := by omega
   clear hf hnx hat hdrop hci hcr hro hr hhv hfe hxr hx HOK
   generalize r.path = rp at *
   generalize r.ex = rx at *
   generalize r.H.length = rn at *
   cases f with
   | true =>
    have hres := HNX.out
    rw [if_pos rfl] at hres
    have HRES := hide hres
    clear hres HNX
    go_wp2_with fail
    refine HF.out.mono ?_
    rintro e w9 ⟨rfl, E9⟩
    go_wp2
    go_ret2
    rw [HRES.out]
    exact ⟨rfl, Ext.trans hext E9⟩
   | false =>
    have hres := HNX.out
    rw [if_neg (by simp)] at hres
    have HRES := hide hres
    clear hres HNX
    go_wp2_with fail
    refine HF.out.mono ?_
    rintro e w9 ⟨rfl, E9⟩
    go_wp2
    go_roundw
    case rel => exact ⟨k + 1, hlt, by go_num, HRES.out, Ext.trans hext E9⟩
    case measure => simp [intOf] <;> omega
  ·obtain rfl : k = I.length := by omega
   have hz := HOK.out
   rw [List.drop_length] at hz
   have HZ := hide hz
   clear hz
   go_wp2
   go_ret2
   rw [HZ.out]
   exact ⟨rfl, hext⟩
set_option maxRecDepth 100000 in
set_option maxHeartbeats 1000000 in
theorem len_any (B b : Nat) (Rs : List RuleD) (I : List Int) (w : World) (hT : TabAt B w b Rs I) :
  Calls Tryd.prog 34 #[.pointer (some ⟨b, 0, none⟩)] w fun e w' => e = .returned (.int .i64 Rs.length) ∧ Ext w w' := by
 obtain ⟨vr, vi, c0, c1, hR, hi, hb, -⟩ := tab_cells hT
 obtain ⟨hlr, ar, cr, rfl⟩ := hR.shape
 clear hR hi hT c1
 go_enter Tryd.func34, Tryd.ntmps34
 go_wp2
 go_ret
 exact ⟨rfl, Below.refl _ _⟩
end Go.Proofs.YtceaeiaoanhlnaaDoor

/- What Find tells, in plain Lean. -/
namespace Go.Proofs.YtceaeiaoanhlnaaDoor
open Go.ChangeShapes Go.WideShapes Go.ChangeAt Go.RowKit Go.Lib Go.Shelf
def keyAt (R : List RuleD) (i : Nat) : Key := (R.map keyR).getD i (0, 0, 0)
/-- does the i-th rule come ahead of the j-th? -/
def aheadB (R : List RuleD) (i j : Nat) : Bool := decide (cmp3 (keyAt R i) (keyAt R j) < 0) || (!decide (cmp3 (keyAt R j) (keyAt R i) < 0) && decide (i < j))
def fitN (R : List RuleD) (p : List UInt8) (H : List HeadD) (i : Nat) : Bool := match R[i]? with | some r => fitR r p H | none => false
theorem fitN_core {Rs R : List RuleD} (h : Rs.map RuleD.core = R.map RuleD.core) (p : List UInt8) (H : List HeadD) (i : Nat) : fitN Rs p H i = fitN R p H i := by
 have e : ∀ L : List RuleD, fitN L p H i = fitN (L.map RuleD.core) p H i := fun L => by
  unfold fitN
  rw [List.getElem?_map]
  cases L[i]? <;> rfl
 rw [e Rs, e R, h]
theorem fitAt_core {Rs R : List RuleD} (h : Rs.map RuleD.core = R.map RuleD.core) (p : List UInt8) (H : List HeadD) : fitAt Rs p H = fitAt R p H := funext fun i => fitN_core h p H i.toNat
theorem rowR_core {Rs R : List RuleD} (h : Rs.map RuleD.core = R.map RuleD.core) : rowR Rs = rowR R := by
 unfold rowR
 rw [keyR_map h, show Rs.length = R.length by simpa using congrArg List.length h]
theorem findI_core {Rs R : List RuleD} (h : Rs.map RuleD.core = R.map RuleD.core) (I : List Int) (p : List UInt8) (H : List HeadD) : findI Rs I p H = findI R I p H := by
 unfold findI
 rw [fitAt_core h]
/-- what Find tells of a table of rules -/
def found (R : List RuleD) (p : List UInt8) (H : List HeadD) : Option Int := findI R (rowR R) p H
theorem found_core {Rs R : List RuleD} (h : Rs.map RuleD.core = R.map RuleD.core) (p : List UInt8) (H : List HeadD) : found Rs p H = found R p H := by
 unfold found
 rw [findI_core h, rowR_core h]
theorem rowR_mem {R : List RuleD} {x : Int} (h : x ∈ rowR R) : 0 ≤ x ∧ x < R.length := by
 have := ((rowL_spec (cfK_swo (R.map keyR)) R.length).1.mem_iff).1 h
 exact upTo_mem.1 this
theorem found_spec (R : List RuleD) (p : List UInt8) (H : List HeadD) :
  (∃ i : Nat, found R p H = some (i : Int) ∧ i < R.length ∧ fitN R p H i = true ∧ ∀ j, j < R.length → fitN R p H j = true → j ≠ i → aheadB R i j = true) ∨ (found R p H = none ∧ ∀ j, j < R.length → fitN R p H j = false) := by
 obtain ⟨h1, h2⟩ := rowL_spec (cfK_swo (R.map keyR)) R.length
 rcases find_row h1 h2 (fitAt R p H) with ⟨i, hf, h0, hn, hp, ha⟩ | ⟨hf, hn⟩
 ·obtain ⟨i, rfl⟩ := Int.eq_ofNat_of_zero_le h0
  refine .inl ⟨i, hf, by omega, hp, fun j hj hpj hne => ?_⟩
  have := ha j (by omega) (by omega) hpj (by omega)
  unfold aheadB
  unfold lexLt at this
  simp only [Go.Proofs.ltOf, cfK, Int.toNat_natCast] at this
  have e : ((i : Int) < (j : Int)) ↔ i < j := by omega
  simp only [e] at this
  exact this
 ·exact .inr ⟨hf, fun j hj => hn j (by omega) (by omega)⟩
/-- one that fits, and stands ahead of all others that fit, is found -/
theorem found_eq {R : List RuleD} {p : List UInt8} {H : List HeadD} {i : Nat} (hi : i < R.length) (hf : fitN R p H i = true) (ha : ∀ j, j < R.length → fitN R p H j = true → j ≠ i → aheadB R j i = false) : found R p H = some (i : Int) := by
 rcases found_spec R p H with ⟨k, h1, h2, h3, h4⟩ | ⟨h1, h2⟩
 ·by_cases e : k = i
  ·rw [h1, e]
  ·have h5 := h4 i hi hf (fun h => e h.symm)
   rw [ha k h2 h3 e] at h5
   cases h5
 ·rw [h2 i hi] at hf
  cases hf
end Go.Proofs.YtceaeiaoanhlnaaDoor
