/- Merged texts (SnO, SnS, SnT, SnU, SnV, SnW). -/
import Derived.Test.YtnnddjmdpplolaaGreatDoorZy
import Derived.Test.YtnnddjmdpplolaaGreatDoorZsf

/- ref01.SameTexts, ref16.SameService of equal services. -/
namespace Go.Proofs.YtnnddjmdpplolaaGreatDoor
open Go.ChangeShapes Go.WideShapes Go.ChangeAt Go.RowKit Go.Lib Go.Shelf
def sameTexts (xs ys : List ByteArray) : Bool := decide (xs.map bl = ys.map bl)
theorem bl_inj {x y : ByteArray} : (x.toList == y.toList) = (bl x == bl y) := by rw [toL, toL]; rfl
set_option maxRecDepth 100000 in
set_option maxHeartbeats 4000000 in
theorem sameTexts_any (xs ys : List ByteArray) (u v : Value) (w : World) (hx : Strs w u xs) (hy : Strs w v ys) :
  Calls Tryz.prog 41 #[u, v] w fun e w' => e = .returned (.bool (sameTexts xs ys)) ∧ Ext w w' := by
 have HX := hide hx
 have HY := hide hy
 obtain ⟨hl1, a, cap, rfl⟩ := hx.shape
 obtain ⟨hl2, a', cap', rfl⟩ := hy.shape
 clear hx hy
 by_cases hlen : xs.length = ys.length
 ·have hlb : ((xs.length : Int) != (ys.length : Int)) = false := by simp [hlen]
  have HLEN := hide hlen; clear hlen
  go_enter Tryz.func41, Tryz.ntmps41
  go_wp2
  go_loopw [5] (fun i wr => ∃ k : Nat, k ≤ xs.length ∧ i = .int .i64 k ∧ Ext w wr ∧ (xs.take k).map bl = (ys.take k).map bl) (fun i _ => xs.length - (intOf i).toNat)
  case atStart => exact ⟨0, Nat.zero_le _, rfl, Below.refl _ _, rfl⟩
  case round =>
   obtain ⟨k, hk, rfl, hE, hT⟩ := hrel
   have HT := hide hT; clear hT
   by_cases hlt : k < xs.length
   ·have hlt2 : k < ys.length := by have := HLEN.out; omega
    obtain ⟨b, off, rfl, hbb, c0⟩ := strs_at (HX.out.ext hE) k hlt
    obtain ⟨b', off', rfl, hbb', c1⟩ := strs_at (HY.out.ext hE) k hlt2
    have htx := take_snoc xs k hlt
    have hty := take_snoc ys k hlt2
    have hgx : bl xs[k] = bl ys[k] → (xs.take (k + 1)).map bl = (ys.take (k + 1)).map bl := fun h => by rw [htx, hty, List.map_append, List.map_append, HT.out]; simp [h]
    have hgn : bl xs[k] ≠ bl ys[k] → sameTexts xs ys = false := fun h => decide_eq_false fun e => h (by
     have h1 := congrArg (fun l => l[k]?) e
     simp only [List.getElem?_map, List.getElem?_eq_getElem hlt, List.getElem?_eq_getElem hlt2, Option.map_some, Option.some.injEq] at h1
     exact h1)
    have hkz : (k : Int) < xs.length := by omega
    have hkz2 : (k : Int) < ys.length := by omega
    generalize xs[k] = x at *
    generalize ys[k] = y at *
    clear htx hty
    by_cases he : bl x = bl y
    ·have heb : (x.toList == y.toList) = true := by rw [bl_inj]; simpa using he
     have heb2 : (x.toList != y.toList) = false := by show (!(x.toList == y.toList)) = false; rw [heb]; rfl
     have HG := hide (hgx he)
     clear he hgx hgn
     go_wp2_with fail
     go_quiet (fail)
     go_wp2
     go_roundw
     case rel => exact ⟨k + 1, by omega, by go_num, Below.drewN' hE _, HG.out⟩
     case measure => simp [intOf]; omega
    ·have heb : (x.toList == y.toList) = false := by rw [bl_inj]; simpa using he
     have heb2 : (x.toList != y.toList) = true := by show (!(x.toList == y.toList)) = true; rw [heb]; rfl
     have HG := hide (hgn he)
     clear he hgx hgn
     go_wp2_with fail
     go_quiet (fail)
     go_wp2
     go_ret
     exact ⟨ret_bool HG.out.symm, Below.drewN' hE _⟩
   ·have hge : xs.length ≤ k := by omega
    have hf : sameTexts xs ys = true := decide_eq_true (by
     have := HT.out; rw [List.take_of_length_le hge, List.take_of_length_le (by have := HLEN.out; omega)] at this; exact this)
    have HF := hide hf; clear hf
    go_wp2
    go_ret
    exact ⟨ret_bool HF.out.symm, hE⟩
 ·have hlb : ((xs.length : Int) != (ys.length : Int)) = true := by simp; omega
  have hf : sameTexts xs ys = false := decide_eq_false fun e => hlen (by simpa using congrArg List.length e)
  have HF := hide hf
  clear hf hlen
  go_enter Tryz.func41, Tryz.ntmps41
  go_wp2
  go_ret
  exact ⟨ret_bool HF.out.symm, Below.refl _ _⟩
set_option maxRecDepth 100000 in
set_option maxHeartbeats 4000000 in
theorem sameS_true (x y : SvcD) (w : World) (hx : Strs w x.kv x.K) (hy : Strs w y.kv y.K) (hc : x.core = y.core) :
  Calls Tryz.prog 17 #[x.val, y.val] w fun e w' => e = .returned (.bool true) ∧ Ext w w' := by
 obtain ⟨a, kv, K, b, c, d, f, g⟩ := x
 obtain ⟨a', kv', K', b', c', d', f', g'⟩ := y
 simp only [SvcD.core, SvcD.mk.injEq, true_and] at hc
 obtain ⟨rfl, rfl, rfl, rfl, rfl, rfl, rfl⟩ := hc
 simp only [] at hx hy
 obtain ⟨-, p1, c1, hk1⟩ := hx.shape
 obtain ⟨-, p2, c2, hk2⟩ := hy.shape
 subst hk1 hk2
 have HST := hide (fun u (hu : Ext w u) => sameTexts_any K K _ _ u (hx.ext hu) (hy.ext hu))
 have htt : sameTexts K K = true := decide_eq_true rfl
 rw [htt] at HST
 clear hx hy htt
 simp only [SvcD.val]
 go_enter Tryz.func17, Tryz.ntmps17
 go_wp2_with fail
 refine (HST.out _ (((Below.refl _ _).alloc (Nat.le_refl _) _).alloc (Nat.le_of_lt (by simp)) _)).mono ?_
 rintro e w' ⟨rfl, E⟩
 have HE := hide (Ext.trans (((Below.refl _ w).alloc (Nat.le_refl _) _).alloc (Nat.le_of_lt (by simp)) _) E)
 clear HST E
 go_wp2
 go_ret
 exact ⟨rfl, HE.out⟩
end Go.Proofs.YtnnddjmdpplolaaGreatDoor

/- ref16.SameEnds on equal lists, ref16.There. -/
namespace Go.Proofs.YtnnddjmdpplolaaGreatDoor
open Go.ChangeShapes Go.WideShapes Go.ChangeAt Go.RowKit Go.Lib Go.Shelf
theorem eqE_self (x : EndD) : eqE x x = true := (eqE_iff x x).2 rfl
theorem neE_run (a b c a' b' c' : Int) (w : World) : (binOp .neq 46 (.agg #[.int .i64 a, .int .i64 b, .int .i64 c]) (.agg #[.int .i64 a', .int .i64 b', .int .i64 c'])).run Tryz.prog w = .ok (.bool (!eqE ⟨a, b, c⟩ ⟨a', b', c'⟩)) w := by
 rw [run_neq_struct, run_equalIn_agg w 9999 _ _ _ endStr endHeld]
 have h := endFields
 generalize (Tryz.prog.fieldsOf 46).toList = fs at h
 rcases fs with _ | ⟨f1, _ | ⟨f2, _ | ⟨f3, _ | ⟨f4, fs⟩⟩⟩⟩
 ·cases h
 ·simp at h
 ·simp at h
 rotate_left
 ·simp at h
 simp only [List.map_cons, List.map_nil, List.cons.injEq, Prod.mk.injEq, and_true] at h
 obtain ⟨⟨h1, h2, h3⟩, ⟨h4, h5, h6⟩, h7, h8, h9⟩ := h
 have n1 : f1.name ≠ "_" := by simpa using h1
 have n2 : f2.name ≠ "_" := by simpa using h4
 have n3 : f3.name ≠ "_" := by simpa using h7
 have p0 : ∀ x y z : Value, (part 3 #[x, y, z] 0).run Tryz.prog w = .ok x w := fun x y z => by simp [part, Tryz.isAgg3 w]
 have p1 : ∀ x y z : Value, (part 3 #[x, y, z] 1).run Tryz.prog w = .ok y w := fun x y z => by simp [part, Tryz.isAgg3 w]
 have p2 : ∀ x y z : Value, (part 3 #[x, y, z] 2).run Tryz.prog w = .ok z w := fun x y z => by simp [part, Tryz.isAgg3 w]
 have pE : ∀ d x y, (Op.equalIn (d + 1) 3 (.int .i64 x) (.int .i64 y)).run Tryz.prog w = .ok (x == y) w := fun d x y => run_equalIn_int w d _ .i64 .i64 x y Tryz.underlying3
 simp only [Op.eqFields, n1, n2, n3, ne_eq, not_false_eq_true, if_true, h2, h3, h5, h6, h8, h9]
 simp [p0, p1, p2, pE, eqE]
 by_cases h1 : a = a' <;> by_cases h2 : b = b' <;> by_cases h3 : c = c' <;> simp [h1, h2, h3]
set_option maxRecDepth 100000 in
set_option maxHeartbeats 4000000 in
theorem sameE_true (E : List EndD) (u v : Value) (w : World) (hx : Ends w u E) (hy : Ends w v E) :
  Calls Tryz.prog 18 #[u, v] w fun e w' => e = .returned (.bool true) ∧ Ext w w' := by
 have HX := hide hx
 have HY := hide hy
 obtain ⟨hl1, a, cap, rfl⟩ := hx.shape
 obtain ⟨hl2, a', cap', rfl⟩ := hy.shape
 clear hx hy
 have hlb : ((E.length : Int) != (E.length : Int)) = false := by simp
 go_enter Tryz.func18, Tryz.ntmps18
 go_wp2
 go_loopw [5] (fun i wr => ∃ k : Nat, k ≤ E.length ∧ i = .int .i64 k ∧ Ext w wr) (fun i _ => E.length - (intOf i).toNat)
 case atStart => exact ⟨0, Nat.zero_le _, rfl, Below.refl _ _⟩
 case round =>
  obtain ⟨k, hk, rfl, hE⟩ := hrel
  by_cases hlt : k < E.length
  ·obtain ⟨b, off, rfl, hbb, c1, c2, c3⟩ := ends_at (HX.out.ext hE) k hlt
   obtain ⟨b', off', rfl, hbb', d1, d2, d3⟩ := ends_at (HY.out.ext hE) k hlt
   generalize E[k] = x at c1 c2 c3 d1 d2 d3
   obtain ⟨x1, x2, x3⟩ := x
   simp only [] at c1 c2 c3 d1 d2 d3
   have hq := neE_run x1 x2 x3 x1 x2 x3
   have hs := eqE_self ⟨x1, x2, x3⟩
   simp only [hs, Bool.not_true] at hq
   have hg := endGuard
   have hwk : IntKind.i64.wrap ((k : Int) + 1) = ((k + 1 : Nat) : Int) := by rw [IntKind.wrap_i64]; omega
   go_wp2_with fail
   go_quiet (fail)
   go_wp2
   go_roundw
   case rel => exact ⟨k + 1, by omega, by go_num, Below.drewN' hE _⟩
   case measure => simp [intOf]; omega
  ·have hge : E.length ≤ k := by omega
   go_wp2
   go_ret
   exact ⟨rfl, hE⟩
end Go.Proofs.YtnnddjmdpplolaaGreatDoor

/- ref16.There (printed by wip/gen_snt.py). -/
namespace Go.Proofs.YtnnddjmdpplolaaGreatDoor
open Go.ChangeShapes Go.WideShapes Go.ChangeAt Go.RowKit Go.Lib Go.Shelf Go.Maps
theorem svcs_at {w : World} {a : Option Addr} {n cap : Nat} {xs : List SvcD} (h : Svcs w (.slice a n cap) xs) (i : Nat) (hi : i < xs.length) :
  ∃ b off, a = some ⟨b, off, none⟩ ∧ b < w.heap.size ∧ w.rangeAt b (off + i * 7) (encV xs[i]) := by
 obtain ⟨_, a', cap', hv, _, hc⟩ := h
 cases hv
 obtain ⟨b, off, ha, hb, hc⟩ := hc i xs[i] (List.getElem?_eq_getElem hi)
 exact ⟨b, off, ha, hb, fun j v hv => by simpa using hc j v hv⟩
end Go.Proofs.YtnnddjmdpplolaaGreatDoor

/- Configurations whose services and endpoints stand in another row, in plain Lean. -/
namespace Go.Proofs.YtnnddjmdpplolaaGreatDoor
open Go.ChangeShapes Go.WideShapes Go.ChangeAt Go.RowKit Go.Lib Go.Shelf Go.Maps
theorem svc_one {S : List SvcD} (hn : (S.map SvcD.id).Nodup) {x y : SvcD} (hx : x ∈ S) (hy : y ∈ S) (h : x.id = y.id) : x = y := by
 obtain ⟨i, hi, rfl⟩ := List.getElem_of_mem hx
 obtain ⟨j, hj, rfl⟩ := List.getElem_of_mem hy
 have hp := List.pairwise_iff_getElem.1 (List.pairwise_map.1 hn)
 rcases Nat.lt_trichotomy i j with h1 | h1 | h1
 ·exact absurd h (hp i j hi hj h1)
 ·subst h1
  rfl
 ·exact absurd h.symm (hp j i hj hi h1)
theorem svcAt_core (S : List SvcD) (id : Int) : (svcAt S id).core = svcAt (S.map SvcD.core) id := by
 unfold svcAt
 rw [List.find?_map]
 show _ = (Option.map SvcD.core (S.find? (fun s => s.id == id))).getD svc0
 cases S.find? (fun s => s.id == id) <;> rfl
end Go.Proofs.YtnnddjmdpplolaaGreatDoor

/- ref16.Ends (printed by wip/gen_snv.py). -/
namespace Go.Proofs.YtnnddjmdpplolaaGreatDoor
open Go.ChangeShapes Go.WideShapes Go.ChangeAt Go.RowKit Go.Lib Go.Shelf
/-- what stands in the answer when k IDs, and i endpoints at the next one, have been looked at -/
def endsL (p : EndD → Bool) (E : List EndD) (k i : Nat) : List EndD := byId k p E ++ (E.take i).filter (fun e => e.id == ((k + 1 : Nat) : Int) && p e)
theorem endsL_zero (p : EndD → Bool) (E : List EndD) (k : Nat) : endsL p E k 0 = byId k p E := by simp [endsL]
theorem endsL_end (p : EndD → Bool) (E : List EndD) (k : Nat) : endsL p E k E.length = byId (k + 1) p E := by
 unfold endsL
 rw [List.take_length, byId_succ]
theorem endsL_step (p : EndD → Bool) (E : List EndD) (k i : Nat) (h : i < E.length) : endsL p E k (i + 1) = if (E[i].id == ((k + 1 : Nat) : Int) && p E[i]) = true then endsL p E k i ++ [E[i]] else endsL p E k i := by
 unfold endsL
 rw [take_snoc E i h, List.filter_append]
 split
 ·rename_i hh
  simp only [List.filter_cons, hh, if_true, List.filter_nil, ← List.append_assoc]
 ·rename_i hh
  simp only [List.filter_cons, hh, List.filter_nil]
  simp
theorem byId_len2 (p : EndD → Bool) (E : List EndD) : ∀ n, (byId n p E).length ≤ n * E.length
 | 0 => by simp [byId]
 | n + 1 => by
  have := byId_len2 p E n
  have h2 : (E.filter fun e => e.id == ((n + 1 : Nat) : Int) && p e).length ≤ E.length := List.length_filter_le _ _
  rw [byId_succ, List.length_append, Nat.succ_mul]
  omega
theorem endsL_len (p : EndD → Bool) (E : List EndD) (k i : Nat) (hk : k ≤ 40) (hE : E.length ≤ 40) : (endsL p E k i).length ≤ 1700 := by
 unfold endsL
 rw [List.length_append]
 have h1 := byId_len2 p E k
 have h2 : ((E.take i).filter fun e => e.id == ((k + 1 : Nat) : Int) && p e).length ≤ E.length := Nat.le_trans (List.length_filter_le _ _) (by rw [List.length_take]; omega)
 have h3 : k * E.length ≤ 40 * 40 := Nat.mul_le_mul hk hE
 omega
set_option maxRecDepth 100000 in
set_option maxHeartbeats 8000000 in
theorem ends16_any (c : ConfD) (sv : Int) (w : World) (hc : Ends w c.ev c.E) (hl : c.E.length ≤ 40) :
  Calls Tryz.prog 20 #[c.val, .int .i64 sv] w fun e w' => ∃ v, e = .returned v ∧ w'.ownsRow w.heap.size 46 3 v (byId 40 (fun e => e.svc == sv) c.E).length ((byId 40 (fun e => e.svc == sv) c.E).flatMap encE) ∧ Ext w w' := by
 obtain ⟨i0, hi, hz0, hz1, hz2⟩ := info_z' infoE'
 obtain ⟨-, aC, cC, hvC⟩ := hc.shape
 have hx : Ext w (w.alloc (.cells #[c.sv, c.ev, c.rv, c.tv, .int .i64 c.w0, .int .i64 c.w1, .int .i64 c.w2, .int .i64 c.w3, .int .i64 c.w4, .int .i64 c.w5, .int .i64 c.w6, .int .i64 c.panic, .int .i64 c.low, .int .i64 c.high, .int .i64 c.wait, .int .i64 c.hop, .int .i64 c.life, .int .i64 c.purse, .int .i64 c.horizon, .int .i64 c.sample] 33)) := (Below.refl _ _).alloc (Nat.le_refl _) _
 have hb1 : (w.alloc (.cells #[c.sv, c.ev, c.rv, c.tv, .int .i64 c.w0, .int .i64 c.w1, .int .i64 c.w2, .int .i64 c.w3, .int .i64 c.w4, .int .i64 c.w5, .int .i64 c.w6, .int .i64 c.panic, .int .i64 c.low, .int .i64 c.high, .int .i64 c.wait, .int .i64 c.hop, .int .i64 c.life, .int .i64 c.purse, .int .i64 c.horizon, .int .i64 c.sample] 33)).cell? ⟨w.heap.size, 1, none⟩ = some (.slice aC c.E.length cC) := by rw [← hvC]; simp
 rw [hvC] at hc
 have HC := hide hc
 clear hc hvC
 obtain ⟨p, hp⟩ : ∃ p : EndD → Bool, (fun e => e.svc == sv) = p := ⟨_, rfl⟩
 have hpe : ∀ x1 x2 x3, p ⟨x1, x2, x3⟩ = (x2 == sv) := fun x1 x2 x3 => by rw [← hp]
 have HP := hide hpe
 rw [hp]
 clear hp hpe
 obtain ⟨LL, hLL⟩ : ∃ LL, byId 40 p c.E = LL := ⟨_, rfl⟩
 rw [hLL]
 have HLL := hide hLL
 clear hLL
 show Calls Tryz.prog 20 #[.agg #[c.sv, c.ev, c.rv, c.tv, .int .i64 c.w0, .int .i64 c.w1, .int .i64 c.w2, .int .i64 c.w3, .int .i64 c.w4, .int .i64 c.w5, .int .i64 c.w6, .int .i64 c.panic, .int .i64 c.low, .int .i64 c.high, .int .i64 c.wait, .int .i64 c.hop, .int .i64 c.life, .int .i64 c.purse, .int .i64 c.horizon, .int .i64 c.sample], .int .i64 sv] w _
 go_enter Tryz.func20, Tryz.ntmps20
 go_wp2_with fail
 generalize w.alloc (.cells #[c.sv, c.ev, c.rv, c.tv, .int .i64 c.w0, .int .i64 c.w1, .int .i64 c.w2, .int .i64 c.w3, .int .i64 c.w4, .int .i64 c.w5, .int .i64 c.w6, .int .i64 c.panic, .int .i64 c.low, .int .i64 c.high, .int .i64 c.wait, .int .i64 c.hop, .int .i64 c.life, .int .i64 c.purse, .int .i64 c.horizon, .int .i64 c.sample] 33) = W at hx hb1 ⊢
 generalize c.E = EC at *
 have HX := hide hx
 have hcl : ∀ X, Ext W X → X.cell? ⟨w.heap.size, 1, none⟩ = some (.slice aC EC.length cC) := fun X hX => (hX.cell (p := ⟨w.heap.size, 1, none⟩) (World.block_lt_of_cell? W _ hb1)).trans hb1
 have HCL := hide hcl
 clear hx hb1 hcl
 go_loopw [5, 6] (fun v5 v6 wr => ∃ k : Nat, k ≤ 40 ∧ v6 = .int .i64 ((k : Int) + 1) ∧ Hid (wr.ownsRow W.heap.size 46 3 v5 (endsL p EC k 0).length ((endsL p EC k 0).flatMap encE)) ∧ Hid (Ext W wr)) (fun _ i _ => 41 - (intOf i).toNat)
 case atStart => exact ⟨0, by omega, rfl, ⟨rfl, .inl ⟨rfl, rfl⟩⟩, Below.refl _ _⟩
 case round =>
  obtain ⟨k, hk, rfl, ho, hx⟩ := hrel
  have HO := hide ho.out
  have HY := hide hx.out
  clear ho hx
  generalize wr = wo at *
  by_cases hlt : k < 40
  ·have hlez : (k : Int) + 1 ≤ 40 := by omega
   have hwk : IntKind.i64.wrap ((k : Int) + 1 + 1) = ((k + 1 : Nat) : Int) + 1 := by rw [IntKind.wrap_i64]; omega
   have HWK := hide hwk
   clear hwk
   go_wp2_with fail
   go_loopw [5, 7] (fun v5 v7 wr => ∃ i : Nat, i ≤ EC.length ∧ v7 = .int .i64 i ∧ Hid (wr.ownsRow W.heap.size 46 3 v5 (endsL p EC k i).length ((endsL p EC k i).flatMap encE)) ∧ Hid (Ext W wr)) (fun _ i _ => EC.length - (intOf i).toNat)
   case atStart => exact ⟨0, Nat.zero_le _, rfl, HO.out, HY.out⟩
   case round =>
    clear HO HY
    obtain ⟨i, hi2, rfl, ho, hx⟩ := hrel
    have HO := hide ho.out
    have HY := hide hx.out
    clear ho hx
    generalize wr = wp at *
    have q1 := HCL.out wp HY.out
    by_cases hil : i < EC.length
    ·have hiz : (i : Int) < EC.length := by omega
     have hwi : IntKind.i64.wrap ((i : Int) + 1) = ((i + 1 : Nat) : Int) := by rw [IntKind.wrap_i64]; omega
     obtain ⟨b, off, rfl, hbb, c1, c2, c3⟩ := ends_at (HC.out.ext (HX.out.trans HY.out)) i hil
     have hst := endsL_step p EC k i hil
     obtain ⟨x, hx⟩ : ∃ x, EC[i] = x := ⟨_, rfl⟩
     rw [hx] at c1 c2 c3 hst
     obtain ⟨x1, x2, x3⟩ := x
     simp only [] at c1 c2 c3 hst
     have hcast : ((k + 1 : Nat) : Int) = (k : Int) + 1 := by omega
     rw [hcast, HP.out] at hst
     have HWI := hide hwi
     clear hx hwi hcast
     by_cases hid : x1 = (k : Int) + 1
     ·subst hid
      rw [beq_self_eq_true, Bool.true_and] at hst
      by_cases hsv : x2 = sv
      ·subst hsv
       rw [beq_self_eq_true, if_pos rfl] at hst
       have HST := hide hst
       have hown := HO.out
       have hll := endsL_len p EC k i hk hl
       have hwi := HWI.out
       have hws := HY.out.size
       clear hst
       generalize endsL p EC k i = M at hown hll HST
       clear HO HWI
       go_wp2_with (at_builtin; refine wpList_append_own _ (by rfl) _ _ 27 (by rfl) W.heap.size 46 i0 (.agg #[.int .i64 0, .int .i64 0, .int .i64 0]) 3 24 Tryz.underlying27 hi hz0 hz1 hz2 rfl (by decide) _ M.length _ (by rfl) (hown.alloc _) ⟨wp.heap.size, 0, none⟩ 1 1 [.int .i64 ((k : Int) + 1), .int .i64 x2, .int .i64 x3] (by rfl) (by rfl) (cells_new wp [.int .i64 ((k : Int) + 1), .int .i64 x2, .int .i64 x3] 46) (by simp [Value.oneCell']) (by unfold maxLen; omega) (by omega) (by simp; omega) ?_; intro v2 w2 hown2 hgrow2 _)
       go_roundw
       case rel => exact ⟨i + 1, by omega, by first | rfl | simp, by show World.ownsRow _ _ _ _ _ _ _; rw [HST.out, List.length_append, List.flatMap_append]; exact hown2, ext_app HY.out ((Below.refl _ _).alloc (Nat.le_refl _) _) hown hgrow2⟩
       case measure => simp [intOf] <;> omega
      ·have hne : (x2 == sv) = false := by simpa using hsv
       rw [hne, if_neg (by decide)] at hst
       have HST := hide hst
       have hwi := HWI.out
       clear hst hsv
       go_wp2
       go_roundw
       case rel => exact ⟨i + 1, by omega, by first | rfl | simp, by show World.ownsRow _ _ _ _ _ _ _; rw [HST.out]; exact HO.out, HY.out⟩
       case measure => simp [intOf] <;> omega
     ·have hne : (x1 == (k : Int) + 1) = false := by simpa using hid
      rw [hne, Bool.false_and, if_neg (by decide)] at hst
      have HST := hide hst
      have hwi := HWI.out
      clear hst hid
      go_wp2
      go_roundw
      case rel => exact ⟨i + 1, by omega, by first | rfl | simp, by show World.ownsRow _ _ _ _ _ _ _; rw [HST.out]; exact HO.out, HY.out⟩
      case measure => simp [intOf] <;> omega
    ·have hie : i = EC.length := by omega
     subst hie
     have h0 := endsL_end p EC k
     rw [← endsL_zero] at h0
     have HO2 := hide (show wp.ownsRow W.heap.size 46 3 _ (endsL p EC (k + 1) 0).length ((endsL p EC (k + 1) 0).flatMap encE) by rw [← h0]; exact HO.out)
     have hwk := HWK.out
     clear h0 HO
     go_wp2
     go_roundw
     case rel => exact ⟨k + 1, by omega, by first | rfl | simp, HO2.out, HY.out⟩
     case measure => simp [intOf] <;> omega
  ·have hk4 : k = 40 := by omega
   subst hk4
   have h0 := HO.out
   rw [endsL_zero, HLL.out] at h0
   have HO2 := hide (owns_mono h0 HX.out.size)
   have HE := hide (HX.out.trans HY.out)
   clear h0 HO HY
   go_wp2
   go_ret
   exact ⟨_, rfl, HO2.out, HE.out⟩
end Go.Proofs.YtnnddjmdpplolaaGreatDoor

/- Boxes of services, the last service of an ID, and ints that are the same: what SnapAsks and its like share. -/
namespace Go.Proofs.YtnnddjmdpplolaaGreatDoor
open Go.ChangeShapes Go.WideShapes Go.ChangeAt Go.RowKit Go.Lib Go.Shelf Go.Maps
def BoxV (w : World) (b : Nat) (s : SvcD) : Prop := w.heap[b]? = some (.cells (encV s).toArray 44 (0, 0))
theorem BoxV.lt {w : World} {b : Nat} {s : SvcD} (h : BoxV w b s) : b < w.heap.size := (Array.getElem?_eq_some_iff.1 h).1
theorem BoxV.ext {w w' : World} {b : Nat} {s : SvcD} (h : BoxV w b s) (e : Ext w w') : BoxV w' b s := (e.block b h.lt).trans h
theorem BoxV.cell {w : World} {b : Nat} {s : SvcD} (h : BoxV w b s) (j : Nat) (u : Value) (hu : (encV s)[j]? = some u) : w.cell? ⟨b, j, none⟩ = some u := ArrB.cell h j u (by simpa using hu)
theorem BoxV.range {w : World} {b : Nat} {s : SvcD} (h : BoxV w b s) : w.rangeAt b 0 (encV s) := fun j v hv => by rw [Nat.zero_add]; exact h.cell j v hv
theorem BoxV.there {w : World} {b : Nat} {s : SvcD} (h : BoxV w b s) : w.there b 0 7 := fun q hq => by
 unfold BoxV at h
 rw [Nat.zero_add]
 refine ⟨?_, by simp only [World.frozen?]; rw [h]; simp⟩
 simp only [World.cell?, h]
 simp [hq, encV]
theorem BoxV.store {w : World} {b : Nat} {s : SvcD} (h : BoxV w b s) (s' : SvcD) : BoxV (w.setCells b 0 (encV s')) b s' := by
 have hrs := World.rangeAt_setCells_same w b 0 (encV s') h.there
 obtain ⟨cs, h1, h2⟩ := setCells_block b 44 (0, 0) (encV s') 0 w _ h
 have e : cs = (encV s').toArray := by
  apply Array.ext_getElem?
  intro j
  by_cases hj : j < 7
  ·have := hrs j (encV s')[j] (List.getElem?_eq_getElem hj)
   rw [Nat.zero_add] at this
   simp only [World.cell?, h1] at this
   exact (by simpa using this : cs[j]? = some (encV s')[j]).trans (Array.getElem?_eq_getElem (show j < (encV s').toArray.size from hj)).symm
  ·rw [Array.getElem?_eq_none (by rw [h2]; show 7 ≤ j; omega), Array.getElem?_eq_none (by show 7 ≤ j; omega)]
 unfold BoxV
 rw [← e]
 exact h1
theorem core_there {S S' : List SvcD} (h : S.map SvcD.core = S'.map SvcD.core) (id : Int) : thereB S id = thereB S' id := by
 rw [← thereB_core, h, thereB_core]
theorem core_svcAt {S S' : List SvcD} (h : S.map SvcD.core = S'.map SvcD.core) (id : Int) : (svcAt S id).core = (svcAt S' id).core := by
 rw [svcAt_core, svcAt_core, h]
/-- the reference's endpoints of a service are the version's -/
theorem byId_svc {c : ConfD} (h : chkC c = 0) (id : Int) : byId 40 (fun e => e.svc == id) c.E = endsAt c.E id := byId_eq _ (chkC_ends h).2.2.2.2.1
end Go.Proofs.YtnnddjmdpplolaaGreatDoor
