/- Merged texts (AppL, PnJ, PnK). -/
import Derived.Laws.AppendOwn
import Derived.Test.YtkhebanpplokdaaGreatDoorZcb
import Derived.Test.YtkhebanpplokdaaGreatDoorZpf
import Derived.Test.YtkhebanpplokdaaGreatDoorSnE
namespace Go.Proofs.YtkhebanpplokdaaGreatDoor
open Go.ChangeShapes Go.WideShapes Go.ChangeAt Go.RowKit Go.Lib Go.Shelf Go.Maps
theorem run_append_place {P : Program} {w : World} (base : Nat) (t ty e : TypeId) (i : TypeInfo) (z : Value) (size bytes : Nat) (ht : P.underlying t = some (.slice e)) (hi : P.info? e = some i) (hz : i.zero = some z)
  (hsize : i.size = size) (hby : i.bytes = bytes) (v : Value) (n : Nat) (xs : List Value) (hown : w.ownsRow base e size v n xs)
  (a : Addr) (m c : Nat) (news : List Value) (hl : news.length = m * size) (hnews : ∀ j u, news[j]? = some u → w.cell? (a.add j) = some u) (h1 : ∀ u ∈ news, u.oneCell' = true) (hm : 0 < m)
  (h63 : n + m ≤ maxLen) (hbytes : (n + m) * bytes ≤ 140737488355328) {v' : Value} {w' : World} (hrun : (Builtin.append_ #[t, t] ty #[v, .slice (some a) m c]).run P w = .ok v' w') :
  v'.ownBlock = v.ownBlock ∨ v'.ownBlock = some w.heap.size := by
 subst hsize
 subst hby
 have hsmall : n + m ≤ 9223372036854775807 := by simp only [maxLen] at h63; omega
 rcases hown.2 with ⟨rfl, rfl⟩ | ⟨g, cap, cur, rfl, hbg, hg, hnc, hcm, hcs, htake⟩
 ·have hr := run_append_nil (P := P) w t ty e i z ht hi hz a m c news hl hnews hm (by omega) (by have hb := hbytes; simp only [Nat.zero_add] at hb; omega)
  rw [hr] at hrun
  cases hrun
  exact .inr rfl
 ·by_cases hroom : n + m ≤ cap
  ·have hfit : n * i.size + news.length ≤ cur.size := by rw [hl, hcs, ← Nat.add_mul]; exact Nat.mul_le_mul_right _ hroom
   have hr := run_append_room (P := P) w t ty e i ht hi g n cap cur hg a m c news hl hnews h1 hroom hfit
   rw [hr] at hrun
   cases hrun
   exact .inl rfl
  ·have holds : ∀ j u, xs[j]? = some u → w.cell? ((⟨g, 0, none⟩ : Addr).add j) = some u := hown.cells (g := g) rfl
   have hr := run_append_grow (P := P) w t ty e i z ht hi hz ⟨g, 0, none⟩ n cap xs hown.1 holds a m c news hl hnews (by omega) (by omega) (growslice_fits (by omega) hbytes)
   rw [hr] at hrun
   cases hrun
   exact .inr rfl
theorem wpList_append_place {P : Program} {w : World} {ops : Array Oper} {rest : List Oper} {o : Oper} {a : Act} {Q : Exit → Act → World → Prop} (hgd : o.guard = none) (s x : Operand) (t : TypeId)
  (ho : o.op = .call { callee := .builtin .append, args := #[s, x], argTypes := #[t, t] })
  (base : Nat) (e : TypeId) (i : TypeInfo) (z : Value) (size bytes : Nat) (ht : P.underlying t = some (.slice e)) (hi : P.info? e = some i) (hz : i.zero = some z)
  (hsize : i.size = size) (hby : i.bytes = bytes) (hzs : z.cells.size = size) (hsz : 0 < size)
  (v : Value) (n : Nat) (xs : List Value) (hs : a.eval s = v) (hown : w.ownsRow base e size v n xs)
  (ad : Addr) (m c : Nat) (news : List Value) (hx : a.eval x = .slice (some ad) m c) (hl : news.length = m * size) (hnews : ∀ j u, news[j]? = some u → w.cell? (ad.add j) = some u) (h1 : ∀ u ∈ news, u.oneCell' = true) (hm : 0 < m)
  (h63 : n + m ≤ maxLen) (hbytes : (n + m) * bytes ≤ 140737488355328) (hbase : base ≤ w.heap.size)
  (h : ∀ v' w', w'.ownsRow base e size v' (n + m) (xs ++ news) → w.grownBy w' v.ownBlock → (v'.ownBlock = v.ownBlock ∨ v'.ownBlock = some w.heap.size) → wpList P ops Q rest (a.put o.dst v') w') : wpList P ops Q (o :: rest) a w := by
 refine wpList_plain hgd fun K hK => ?_
 obtain ⟨v', w', hr, h2, h3, -⟩ := run_append_own (P := P) w base t o.type e i z size bytes ht hi hz hsize hby hzs hsz v n xs hown ad m c news hl hnews h1 h63 hbytes hbase
 have h4 := run_append_place base t o.type e i z size bytes ht hi hz hsize hby v n xs hown ad m c news hl hnews h1 hm h63 hbytes hr
 unfold Oper.wp execOp
 simp only [ho, resolve, invoke, builtin, Sem.run_bind, Sem.run_pure, Result.andThen_ok, List.map_toArray, List.map_cons, List.map_nil, hs, hx, hr]
 exact hK _ _ (h v' w' h2 h3 h4)
end Go.Proofs.YtkhebanpplokdaaGreatDoor
namespace Go.Proofs.YtkhebanpplokdaaGreatDoor
open Go.ChangeShapes Go.WideShapes Go.ChangeAt Go.RowKit Go.Lib Go.Shelf Go.Maps
theorem Tryz.infoM : (Tryz.prog.info? 117).map (fun i => (i.zero, i.size, i.bytes)) = some (some (.agg #[.pointer none, .int .i64 0, .int .i64 0]), 3, 24) := by kernel_rfl
/-- one more version -/
def pubP (pl : PlD) (b : Nat) : PlD := { pl with V := pl.V ++ [⟨some b, 0, 0⟩] }
/-- a plane with one more version: the row appended to, and stored into the plane's box -/
theorem PlaneIs.pub {B : Nat} {w w2 : World} {p bm : Nat} {vv v2 : Value} {N : Nat} {pl : PlD} (h : PlaneIs B w p bm vv N pl) (hg : w.grownBy w2 vv.ownBlock) (b : Nat) (ho : w2.ownsRow B 117 3 v2 (pl.V.length + 1) (pl.V.flatMap encM ++ encM ⟨some b, 0, 0⟩))
  (hb : w.cell? ⟨b, 0, none⟩ = some (.int .i64 ((pl.V.length : Int) + 1))) (hbt : ∃ cs f, w.heap[b]? = some (.cells cs 45 f)) :
  PlaneIs B (w2.setCell ⟨p, 1, none⟩ v2) p bm v2 N (pubP pl b) ∧ Keeps (fun q => q = p ∨ vv.ownBlock = some q) w (w2.setCell ⟨p, 1, none⟩ v2) := by
 have hx : ∀ {q : Nat} {cs : Array Value} {T : TypeId} {f : Nat × Nat}, w.heap[q]? = some (.cells cs T f) → T ≠ 117 → w2.heap[q]? = some (.cells cs T f) := fun {q cs T f} h1 h2 => by
  refine (hg.block q (Array.getElem?_eq_some_iff.1 h1).1 (fun e => h2 ?_)).trans h1
  exact owns_type h.row e.symm h1
 have hbx := hx h.box (by decide)
 have hset := ArrB.set hbx 1 v2
 have hks := Keeps.of_set (X := fun q => q = p) w2 p 1 v2 rfl
 have hbm : bm ≠ p := fun e => by
  obtain ⟨n, -, hs⟩ := h.sm
  obtain ⟨es, cc, h1⟩ := hs.block
  rw [e, h.box] at h1
  cases h1
 have hbv : some bm ≠ vv.ownBlock := fun e => by
  obtain ⟨n, -, hs⟩ := h.sm
  obtain ⟨es, cc, h1⟩ := hs.block
  obtain ⟨cs, fz, h2⟩ := ownsRow_kind h.row bm e.symm
  rw [h1] at h2
  cases h2
 have hsn : ∀ {q : Nat} {cs : Array Value} {f : Nat × Nat}, w.heap[q]? = some (.cells cs 45 f) → (w2.setCell ⟨p, 1, none⟩ v2).heap[q]? = some (.cells cs 45 f) := fun {q cs f} h1 => by
  have h2 := hx h1 (by decide)
  refine (hks.block q (Array.getElem?_eq_some_iff.1 h2).1 (fun e => ?_)).trans h2
  rw [e, hbx] at h2
  cases h2
 refine ⟨⟨h.hp, h.hm, by simpa [pubP] using hset, ?_, ?_, fun i hi q hq => ?_⟩, ?_⟩
 ·have h1 := owns_keepT ho hks (OfT.one hbx) (by decide)
  simpa [pubP, List.flatMap_append] using h1
 ·obtain ⟨n, hn, hs⟩ := h.sm
  exact ⟨n, hn, (hs.kept hg hbv).setCell (a := ⟨p, 1, none⟩) hbm _⟩
 ·by_cases hil : i < pl.V.length
  ·have hq2 : pl.V[i].b = some q := by
    rw [← hq]
    simp [pubP, List.getElem_append_left hil]
   obtain ⟨g1, cs, f, g2⟩ := h.ver i hil q hq2
   refine ⟨?_, cs, f, hsn g2⟩
   rw [← g1]
   exact World.cell?_of_block (w := w) (a := ⟨q, 0, none⟩) ((hsn g2).trans g2.symm)
  ·have hie : i = pl.V.length := by
    have : i < pl.V.length + 1 := by simpa [pubP] using hi
    omega
   subst hie
   have hqb : b = q := by simpa [pubP] using hq
   subst hqb
   obtain ⟨cs, f, g2⟩ := hbt
   refine ⟨?_, cs, f, hsn g2⟩
   rw [← hb]
   exact World.cell?_of_block (w := w) (a := ⟨b, 0, none⟩) ((hsn g2).trans g2.symm)
 ·exact ((Keeps.of_grown hg (X := fun q => q = p ∨ vv.ownBlock = some q) (fun k hk => .inr hk))).trans (hks.mono fun q h => .inl h)
theorem PlaneIs.growB {B : Nat} {w w2 : World} {p bm : Nat} {vv : Value} {N : Nat} {pl : PlD} (h : PlaneIs B w p bm vv N pl) (hg : w.grownBy w2 vv.ownBlock) : w2.heap[p]? = some (.cells #[.int .i64 pl.k, vv, .map (some bm)] 115 (0, 0)) :=
 (hg.block p h.lt (fun e => absurd (owns_type h.row e.symm h.box) (by decide))).trans h.box
theorem PlaneIs.grow1 {B : Nat} {w w2 : World} {p bm : Nat} {vv : Value} {N : Nat} {pl : PlD} (h : PlaneIs B w p bm vv N pl) (hg : w.grownBy w2 vv.ownBlock) : w2.cell? ⟨p, 1, none⟩ = some vv := by
 have hb := h.growB hg
 simp only [World.cell?, hb]
 rfl
theorem PlaneIs.grow2 {B : Nat} {w w2 : World} {p bm : Nat} {vv : Value} {N : Nat} {pl : PlD} (h : PlaneIs B w p bm vv N pl) (hg : w.grownBy w2 vv.ownBlock) : w2.frozen? ⟨p, 1, none⟩ = false := by
 have hb := h.growB hg
 simp [World.frozen?, hb]
set_option maxRecDepth 100000 in
set_option maxHeartbeats 8000000 in
theorem publish_any {B : Nat} {w : World} {p bm : Nat} {vv : Value} {N : Nat} {pl : PlD} (h : PlaneIs B w p bm vv N pl) (B' : Nat) (c : ConfD) (ho : ConfOwn B' w c) (hB' : B' ≤ w.heap.size) (hf : ConfFit c) (hl : c.E.length ≤ 19) (hr : chkC c = 0) (hm : MaxV w) (h50 : pl.V.length < 50) (hB : B ≤ w.heap.size) :
  Calls Tryz.prog 14 #[.pointer (some ⟨p, 0, none⟩), c.val] w fun e w' => e = .returned (.tuple #[.int .i64 ((pl.V.length : Int) + 1), .int .i64 0]) ∧ ∃ b vv' w1 B2, w.heap.size ≤ B2 ∧ Ext w w1 ∧ SnapAt B2 w1 b ((pl.V.length : Int) + 1) c ∧ PlaneIs B w' p bm vv' N (pubP pl b) ∧ Keeps (fun q => q = p ∨ vv.ownBlock = some q) w1 w' ∧ (vv'.ownBlock = vv.ownBlock ∨ ∀ g, vv'.ownBlock = some g → w1.heap.size ≤ g) := by
 obtain ⟨cd, hcd1, hcd2⟩ := Tryz.confDesc
 obtain ⟨i0, hi, hz0, hz1, hz2⟩ := info_z' Tryz.infoM
 have hx : Ext w (w.alloc (.cells #[c.sv, c.ev, c.rv, c.tv, .int .i64 c.w0, .int .i64 c.w1, .int .i64 c.w2, .int .i64 c.w3, .int .i64 c.w4, .int .i64 c.w5, .int .i64 c.w6, .int .i64 c.panic, .int .i64 c.low, .int .i64 c.high, .int .i64 c.wait, .int .i64 c.hop, .int .i64 c.life, .int .i64 c.purse, .int .i64 c.horizon, .int .i64 c.sample] 30)) := (Below.refl _ _).alloc (Nat.le_refl _) _
 have hbx : BoxC (w.alloc (.cells #[c.sv, c.ev, c.rv, c.tv, .int .i64 c.w0, .int .i64 c.w1, .int .i64 c.w2, .int .i64 c.w3, .int .i64 c.w4, .int .i64 c.w5, .int .i64 c.w6, .int .i64 c.panic, .int .i64 c.low, .int .i64 c.high, .int .i64 c.wait, .int .i64 c.hop, .int .i64 c.life, .int .i64 c.purse, .int .i64 c.horizon, .int .i64 c.sample] 30)) w.heap.size c := heap_alloc_new w _
 obtain ⟨a, cc, hv⟩ := owns_shape h.row
 subst hv
 have H := hide h
 have HO := hide ho
 have HF := hide hf
 have HM := hide hm
 have HB' := hide hB'
 have HB := hide hB
 have HR := hide hr
 have H50 := hide h50
 clear h ho hf hm hB' hB hr
 show Calls Tryz.prog 14 #[.pointer (some ⟨p, 0, none⟩), .agg #[c.sv, c.ev, c.rv, c.tv, .int .i64 c.w0, .int .i64 c.w1, .int .i64 c.w2, .int .i64 c.w3, .int .i64 c.w4, .int .i64 c.w5, .int .i64 c.w6, .int .i64 c.panic, .int .i64 c.low, .int .i64 c.high, .int .i64 c.wait, .int .i64 c.hop, .int .i64 c.life, .int .i64 c.purse, .int .i64 c.horizon, .int .i64 c.sample]] w _
 go_enter Tryz.func14, Tryz.ntmps14
 have c1 := (H.out.ext hx).c1
 have hw1 : IntKind.i64.wrap ((pl.V.length : Int) + 1) = (pl.V.length : Int) + 1 := by rw [IntKind.wrap_i64]; omega
 go_upto_region 2 with (fail)
 generalize w.alloc (.cells #[c.sv, c.ev, c.rv, c.tv, .int .i64 c.w0, .int .i64 c.w1, .int .i64 c.w2, .int .i64 c.w3, .int .i64 c.w4, .int .i64 c.w5, .int .i64 c.w6, .int .i64 c.panic, .int .i64 c.low, .int .i64 c.high, .int .i64 c.wait, .int .i64 c.hop, .int .i64 c.life, .int .i64 c.purse, .int .i64 c.horizon, .int .i64 c.sample] 30) = W at hx hbx c1 ⊢
 refine wp_region_lit ?_
 refine wpList_plain rfl fun K hK => ?_
 go_simp
 refine hK _ _ ?_
 refine wpList_load_mid rfl 30 (.tmp 3) rfl w.heap.size 0 rfl (encC c) cd (hbx.range) hcd1 hcd2 Tryz.confSize ?_
 simp only [Act.put]
 have HX := hide hx
 have HBX := hide hbx
 clear hx hbx c1
 go_wp2_with fail
 refine (mnew_any ((pl.V.length : Int) + 1) B' c W (HM.out.ext HX.out) (Nat.le_trans HB'.out HX.out.size) (HO.out.ext HX.out) HF.out hl).mono ?_
 rintro e W2 ⟨E2, ⟨hne, -⟩ | ⟨-, b, rfl, hsa⟩⟩
 ·exact absurd HR.out hne
 have HE := hide (HX.out.trans E2)
 have HSA := hide hsa
 have hbv : W2.cell? ⟨b, 0, none⟩ = some (.int .i64 ((pl.V.length : Int) + 1)) ∧ ∃ cs f, W2.heap[b]? = some (.cells cs 45 f) := by
  obtain ⟨d, bt, bs, br, nb, Rs, g, sa, -⟩ := hsa
  exact ⟨sa.box.cell 0 _ rfl, _, _, sa.box⟩
 have HBV := hide hbv
 have hgt : ¬ (pl.V.length : Int) + 1 > 50 := by have := H50.out; omega
 have h2 := H.out.ext HE.out
 have HP2 := hide h2
 have c1 := h2.c1
 have hown := h2.row
 have hal : Ext W2 (W2.alloc (.cells #[.pointer (some ⟨b, 0, none⟩), .int .i64 0, .int .i64 0] 117)) := (Below.refl _ _).alloc (Nat.le_refl _) _
 have HAL := hide hal
 have hwsz := HE.out.size
 have hbsz := HB.out
 have hn50 := H50.out
 clear E2 hsa hbv h2 hal
 go_wp2_with (at_builtin; refine wpList_append_place (by rfl) _ _ 113 (by rfl) B 117 i0 (.agg #[.pointer none, .int .i64 0, .int .i64 0]) 3 24 Tryz.underlying113 hi hz0 hz1 hz2 rfl (by decide) _ pl.V.length _ (by rfl) (hown.alloc _) ⟨W2.heap.size, 0, none⟩ 1 1 [.pointer (some ⟨b, 0, none⟩), .int .i64 0, .int .i64 0] (by rfl) (by rfl) (cells_new W2 [.pointer (some ⟨b, 0, none⟩), .int .i64 0, .int .i64 0] 117) (by simp [Value.oneCell']) (by decide) (by unfold maxLen; omega) (by omega) (by simp; omega) ?_; intro v2 w2 hown2 hgrow2 hplace; obtain ⟨a2, c2, rfl⟩ := owns_shape hown2; have c1 : w2.cell? ⟨p, 1, none⟩ = some (.slice a pl.V.length cc) := PlaneIs.grow1 (HP2.out.ext HAL.out) hgrow2; have z1 : w2.frozen? ⟨p, 1, none⟩ = false := PlaneIs.grow2 (HP2.out.ext HAL.out) hgrow2)
 go_ret2
 have hp3 := HP2.out.ext HAL.out
 have hb3 := (HAL.out.cell (p := ⟨b, 0, none⟩) (World.block_lt_of_cell? W2 _ HBV.out.1)).trans HBV.out.1
 obtain ⟨cs, f, hbt⟩ := HBV.out.2
 have hbt3 := (HAL.out.block b (Array.getElem?_eq_some_iff.1 hbt).1).trans hbt
 obtain ⟨g1, g2⟩ := hp3.pub hgrow2 b hown2 hb3 ⟨cs, f, hbt3⟩
 refine ⟨rfl, b, _, W2, W.heap.size, HX.out.size, HE.out, HSA.out, g1, (Keeps.of_ext HAL.out).trans g2, ?_⟩
 rcases hplace with hp | hp
 ·exact .inl hp
 ·refine .inr fun q hq => ?_
  rw [hp] at hq
  have e : (W2.alloc (.cells #[.pointer (some ⟨b, 0, none⟩), .int .i64 0, .int .i64 0] 117)).heap.size = W2.heap.size + 1 := by simp
  rw [e] at hq
  cases hq
  omega
end Go.Proofs.YtkhebanpplokdaaGreatDoor
namespace Go.Proofs.YtkhebanpplokdaaGreatDoor
open Go.ChangeShapes Go.WideShapes Go.ChangeAt Go.RowKit Go.Lib Go.Shelf Go.Maps
theorem PlaneIs.keeps {B : Nat} {w w' : World} {p bm : Nat} {vv : Value} {N : Nat} {pl : PlD} {X : Nat → Prop} (h : PlaneIs B w p bm vv N pl) (k : Keeps X w w') (hp : ¬ X p) (hbm : ¬ X bm) (hv : ∀ g, vv.ownBlock = some g → ¬ X g) (hs : ∀ q, X q → ∀ cs f, w.heap[q]? ≠ some (.cells cs 45 f)) : PlaneIs B w' p bm vv N pl := by
 obtain ⟨n, hn, hm⟩ := h.sm
 refine ⟨h.hp, h.hm, (k.block p h.lt hp).trans h.box, owns_keeps h.row k hv, ⟨n, hn, hm.keepB (k.block bm hm.lt hbm)⟩, fun i hi b hb => ?_⟩
 obtain ⟨g1, cs, f, g2⟩ := h.ver i hi b hb
 have g3 := (k.block b (Array.getElem?_eq_some_iff.1 g2).1 (fun hx => hs b hx cs f g2)).trans g2
 refine ⟨?_, cs, f, g3⟩
 rw [← g1]
 exact World.cell?_of_block (w := w) (a := ⟨b, 0, none⟩) (g3.trans g2.symm)
end Go.Proofs.YtkhebanpplokdaaGreatDoor
