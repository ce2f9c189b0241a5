/- Merged texts (CfJ, CfI). -/
import Derived.Test.YtmpciohmljpncaaGreatDoorZcb
import Derived.Deep.AppendLies
import Derived.Deep.RegionHeldLaw
namespace Go.Proofs.YtmpciohmljpncaaGreatDoor
open Go.ChangeShapes Go.WideShapes Go.ChangeAt Go.RowKit Go.Lib Go.Shelf
theorem encC_one {B : Nat} {w : World} {c : ConfD} (h : ConfOwn B w c) : ∀ u ∈ encC c, u.oneCell' = true := by
 obtain ⟨a1, c1, h1⟩ := owns_shape h.s
 obtain ⟨a2, c2, h2⟩ := owns_shape h.e
 obtain ⟨a3, c3, h3⟩ := owns_shape h.r
 obtain ⟨a4, c4, h4⟩ := owns_shape h.t
 intro u hu
 unfold encC at hu
 rw [h1, h2, h3, h4] at hu
 simp only [List.mem_cons, List.not_mem_nil, or_false] at hu
 rcases hu with rfl | rfl | rfl | rfl | rfl | rfl | rfl | rfl | rfl | rfl | rfl | rfl | rfl | rfl | rfl | rfl | rfl | rfl | rfl | rfl <;> rfl
set_option maxRecDepth 100000 in
set_option maxHeartbeats 16000000 in
theorem conf_tail12 (L : List Int) (w W : World) (b5 : Nat) (x : Nat → Value) (e2 : x 2 = .pointer (some ⟨w.heap.size, 0, none⟩)) (e5 : x 5 = .pointer (some ⟨b5, 0, none⟩)) (e11 : x 11 = .int .i64 (pk L 7 : Nat)) (c1 : ConfD) (hcore : c1.core = confC L (numR L)) (hcs : CS w W w.heap.size b5 c1) :
  Code.wp Tryz.prog (confTail 12) (bodyPost Tryz.prog Tryz.f4 (ConfP L w)) ⟨frameOf 236 x, []⟩ W := by
 conv => arg 2; whnf
 rw [frame236]
 simp only [e2, e5, e11]
 clear e2 e5 e11
 obtain ⟨cd, hcd1, hcd2⟩ := Tryz.confDesc
 obtain ⟨ir, zr, hir0, hir1, hir2, hir3, hir4⟩ := info_partsN Tryz.infoR
 obtain ⟨ra, rc, hrv⟩ := owns_shape hcs.own.r
 have hRl : c1.R.length ≤ 4 := by
  have := congrArg (fun c => c.R.length) hcore
  have e : c1.R.length = numR L := by simpa [ConfD.core, confC, rulesC_len] using this
  have := numR_le L
  omega
 have p7 := pk_lt L 7
 obtain ⟨N7, hN7⟩ : ∃ N, pk L 7 = N := ⟨_, rfl⟩
 rw [hN7] at p7 ⊢
 have c2c : W.cell? ⟨b5, 2, none⟩ = some (.slice ra c1.R.length rc) := by rw [← hrv]; exact hcs.box.cell 2 _ rfl
 have tf0 : (N7 : Int).tmod 3 = (N7 : Int) % 3 := Int.tmod_eq_emod_of_nonneg (by omega)
 have tf1 : IntKind.i64.wrap ((N7 : Int) % 3) = (N7 : Int) % 3 := IntWalk.i64_in _ (by omega)
 have tf2 : IntKind.i64.wrap (1 + (N7 : Int) % 3) = 1 + (N7 : Int) % 3 := IntWalk.i64_in _ (by omega)
 have tf3 : (N7 : Int).tdiv 3 = (N7 : Int) / 3 := Int.tdiv_eq_ediv_of_nonneg (by omega)
 have tf4 : IntKind.i64.wrap ((N7 : Int) / 3) = (N7 : Int) / 3 := IntWalk.i64_in _ (by omega)
 have tf5 : ((N7 : Int) / 3).tmod 4 = (N7 : Int) / 3 % 4 := Int.tmod_eq_emod_of_nonneg (by omega)
 have tf6 : IntKind.i64.wrap ((N7 : Int) / 3 % 4) = (N7 : Int) / 3 % 4 := IntWalk.i64_in _ (by omega)
 have HN7 := hide hN7
 have HCS := hide hcs
 have HCO := hide hcore
 have HRV := hide hrv
 have HRL := hide hRl
 clear hcs hcore hrv hN7 hRl
 go_upto_region 28 with (fail)
 refine wp_region_lit ?_
 refine wpList_plain rfl fun K hK => ?_
 go_simp
 refine hK _ _ ?_
 refine wpList_plain rfl fun K hK => ?_
 go_simp
 refine hK _ _ ?_
 refine wpList_plain rfl fun K hK => ?_
 go_simp
 refine hK _ _ ?_
 refine wpList_plain rfl fun K hK => ?_
 go_simp
 refine hK _ _ ?_
 refine wpList_plain rfl fun K hK => ?_
 go_simp
 refine hK _ _ ?_
 refine wpList_plain rfl fun K hK => ?_
 go_simp
 refine hK _ _ ?_
 refine wpList_plain rfl fun K hK => ?_
 go_simp
 refine hK _ _ ?_
 refine wpList_plain rfl fun K hK => ?_
 go_simp
 refine hK _ _ ?_
 refine wpList_plain rfl fun K hK => ?_
 go_simp
 refine hK _ _ ?_
 refine wpList_plain rfl fun K hK => ?_
 go_simp
 refine hK _ _ ?_
 refine wpList_plain rfl fun K hK => ?_
 go_simp
 refine hK _ _ ?_
 refine wpList_plain rfl fun K hK => ?_
 go_simp
 refine hK _ _ ?_
 refine wpList_plain rfl fun K hK => ?_
 go_simp
 refine hK _ _ ?_
 refine wpList_plain rfl fun K hK => ?_
 go_simp
 refine hK _ _ ?_
 refine wpList_plain rfl fun K hK => ?_
 go_simp
 refine hK _ _ ?_
 have E1 : Ext W (W.alloc (.cells #[.int .i64 1, .int .i64 1] 60)) := (Below.refl _ _).alloc (Nat.le_refl _) _
 have E2 : Ext (W.alloc (.cells #[.int .i64 1, .int .i64 1] 60)) ((W.alloc (.cells #[.int .i64 1, .int .i64 1] 60)).alloc (.cells #[.string ⟨#[47]⟩, .bool false, .slice none 0 0, .slice (some ⟨W.heap.size, 0, none⟩) 1 1, .int .i64 0, .int .i64 0, .int .i64 0, .int .i64 0, .string ⟨#[]⟩, .slice none 0 0, .slice none 0 0, .int .i64 30, .int .i64 (1 + (N7 : Int) % 3), .int .i64 ((N7 : Int) / 3 % 4), .int .i64 0, .int .i64 1, .int .i64 2, .int .i64 2, .int .i64 0] 57)) := (Below.refl _ _).alloc (Nat.le_refl _) _
 have hxa := E1.trans E2
 have hpo := World.ownsRow_lit (base := w.heap.size) (e := 60) (size := 2) W #[.int .i64 1, .int .i64 1] 1 HCS.out.ext.size (by unfold maxLen; omega) rfl
 obtain ⟨r, hr⟩ : ∃ r : RuleD, r = ⟨⟨#[47]⟩, false, .slice none 0 0, [], .slice (some ⟨W.heap.size, 0, none⟩) 1 1, [(1, 1)], 0, 0, 0, 0, ⟨#[]⟩, .slice none 0 0, [], .slice none 0 0, [], 30, 1 + (N7 : Int) % 3, (N7 : Int) / 3 % 4, 0, 1, 2, 2, 0⟩ := ⟨_, rfl⟩
 have hro : RuleOwn w.heap.size ((W.alloc (.cells #[.int .i64 1, .int .i64 1] 60)).alloc (.cells #[.string ⟨#[47]⟩, .bool false, .slice none 0 0, .slice (some ⟨W.heap.size, 0, none⟩) 1 1, .int .i64 0, .int .i64 0, .int .i64 0, .int .i64 0, .string ⟨#[]⟩, .slice none 0 0, .slice none 0 0, .int .i64 30, .int .i64 (1 + (N7 : Int) % 3), .int .i64 ((N7 : Int) / 3 % 4), .int .i64 0, .int .i64 1, .int .i64 2, .int .i64 2, .int .i64 0] 57)) r := by
  rw [hr]
  exact ⟨World.ownsRow_nil _ _ _ _, owns_ext hpo E2, World.ownsRow_nil _ _ _ _, World.ownsRow_nil _ _ _ _⟩
 have hrc : r.core = lastN N7 := by rw [hr]; rfl
 have hre : encR r = [.string ⟨#[47]⟩, .bool false, .slice none 0 0, .slice (some ⟨W.heap.size, 0, none⟩) 1 1, .int .i64 0, .int .i64 0, .int .i64 0, .int .i64 0, .string ⟨#[]⟩, .slice none 0 0, .slice none 0 0, .int .i64 30, .int .i64 (1 + (N7 : Int) % 3), .int .i64 ((N7 : Int) / 3 % 4), .int .i64 0, .int .i64 1, .int .i64 2, .int .i64 2, .int .i64 0] := by rw [hr]; rfl
 have HRO := hide hro
 have HRC := hide hrc
 have HRE := hide hre
 have hsn := sl_new1 encR_len (W.alloc (.cells #[.int .i64 1, .int .i64 1] 60)) r 57 _ hre
 rw [show (W.alloc (.cells #[.int .i64 1, .int .i64 1] 60)).heap.size = W.heap.size + 1 from Array.size_push _] at hsn
 have HSN := hide hsn
 have HC2 := hide (HCS.out.keep hxa)
 clear hsn hro hrc hre hpo hr tf0 tf1 tf2 tf3 tf4 tf5 tf6 c2c
 refine wpList_append_sl (enc := encR) rfl _ _ _ rfl w.heap.size 57 ir zr 19 232 Tryz.underlying25 hir0 hir1 hir2 hir3 hir4 (by decide) encR_len (.slice ra c1.R.length rc) c1.R.length (c1.R.flatMap encR) rfl (by have := HC2.out.own.r; rw [HRV.out] at this; exact this) (.slice (some ⟨W.heap.size + 1, 0, none⟩) 1 1) rfl [r] HSN.out (fun x hx => by rw [List.mem_singleton.1 hx]; exact encR_one' r HRO.out.ok) (by have := HRL.out; unfold maxLen; simp; omega) (by have := HRL.out; simp; omega) HC2.out.ext.size ?_
 intro v8 w8 hown8 hg8
 have hown8 : w8.ownsRow w.heap.size 57 19 v8 (c1.R.length + 1) (c1.R.flatMap encR ++ [r].flatMap encR) := hown8
 obtain ⟨a8, y8, rfl⟩ := owns_shape hown8
 clear HSN
 generalize ((W.alloc (.cells #[.int .i64 1, .int .i64 1] 60)).alloc (.cells #[.string ⟨#[47]⟩, .bool false, .slice none 0 0, .slice (some ⟨W.heap.size, 0, none⟩) 1 1, .int .i64 0, .int .i64 0, .int .i64 0, .int .i64 0, .string ⟨#[]⟩, .slice none 0 0, .slice none 0 0, .int .i64 30, .int .i64 (1 + (N7 : Int) % 3), .int .i64 ((N7 : Int) / 3 % 4), .int .i64 0, .int .i64 1, .int .i64 2, .int .i64 2, .int .i64 0] 57)) = WW at HRO HC2 hg8
 have hk8 : Keeps (fun q => c1.rv.ownBlock = some q) WW w8 := Keeps.of_grown hg8 (fun q h => by rw [HRV.out]; exact h)
 have hn5 : ¬ c1.rv.ownBlock = some b5 := fun e => absurd (owns_type HC2.out.own.r e HC2.out.box) (by decide)
 have hb8 := HC2.out.box.keep (hk8.block b5 HC2.out.box.lt hn5)
 have c8 : w8.cell? ⟨b5, 2, none⟩ = some c1.rv := hb8.cell 2 _ rfl
 have z8 := hb8.frozen 2
 have hC3 := HC2.out.addR (s := r) hk8 hown8 HRO.out
 have hco3 : ({ c1 with rv := .slice a8 (c1.R.length + 1) y8, R := c1.R ++ [r] } : ConfD).core = genC L := by
  show ({ c1.core with R := (c1.R ++ [r]).map RuleD.core } : ConfD) = _
  have e1 : c1.R.map RuleD.core = rulesC L (svcsM L) (numR L) := congrArg (fun c => c.R) HCO.out
  rw [List.map_append, e1, HCO.out, List.map_cons, HRC.out, ← HN7.out]
  rfl
 have HC3 := hide hC3
 have HCO3 := hide hco3
 clear hC3 hco3 hb8 hn5 hk8 hown8 hg8 hxa E1 E2 HC2 HRO HRC HRE HRV HRL HCS HCO
 refine wpList_plain rfl fun K hK => ?_
 go_simp
 refine hK _ _ ?_
 refine wpList_plain rfl fun K hK => ?_
 go_simp
 refine hK _ _ ?_
 refine wpList_nil ?_
 obtain ⟨c3, hc3⟩ : ∃ c3 : ConfD, ({ c1 with rv := .slice a8 (c1.R.length + 1) y8, R := c1.R ++ [r] } : ConfD) = c3 := ⟨_, rfl⟩
 have hC3 := HC3.out
 have hco3 := HCO3.out
 rw [hc3] at hC3 hco3
 clear HC3 HCO3 hc3 c8 z8
 generalize w8.setCell ⟨b5, 2, none⟩ (.slice a8 (c1.R.length + 1) y8) = W9 at hC3 ⊢
 obtain ⟨cs, h6, hcz⟩ := hC3.bx2
 have HC := hide hC3
 have HCO := hide hco3
 clear hC3 hco3
 go_upto_region 29 with (fail)
 refine wp_region_lit ?_
 refine wpList_load_mid rfl 30 (.tmp 5) rfl b5 0 rfl (encC c3) cd HC.out.box.range hcd1 hcd2 Tryz.confSize ?_
 have hth : W9.there w.heap.size 0 (encC c3).toArray.size := fun j hj => by
  have hj' : j < 20 := hj
  rw [Nat.zero_add]
  refine ⟨?_, by simp [World.frozen?, h6]⟩
  simp only [World.cell?, h6]
  simp [hj', hcz]
 refine wpList_store_mid rfl 30 (.tmp 2) (.tmp 235) rfl w.heap.size 0 (encC c3).toArray rfl rfl hth Tryz.confSize (all_oneCell_toArray (encC_one HC.out.own)) ?_
 refine wpList_nil ?_
 have hrs := World.rangeAt_setCells_same W9 w.heap.size 0 (encC c3) hth
 have hk5 := keeps_setCells w.heap.size (encC c3) 0 W9
 show Exit.then _ _ _ _ (W9.setCells w.heap.size 0 (encC c3))
 generalize W9.setCells w.heap.size 0 (encC c3) = W10 at hrs hk5 ⊢
 have HEF := hide (Keeps.ext HC.out.ext hk5 (fun g hg => by omega))
 have HOF := hide (HC.out.own.keepT hk5 (OfT.one h6) (by decide) (by decide) (by decide) (by decide) (by decide) (by decide) (by decide))
 have HRG := hide hrs
 clear hrs hk5 hth h6 hcz
 simp only [Act.put]
 go_wp2_with (fail)
 (try simp only [Exit.inBlock, Exit.then])
 refine bodyPost_ret (results_cell_mid rfl _ _ w.heap.size 0 (encC c3) cd rfl HRG.out hcd1 hcd2 Tryz.confSize) rfl ?_
 exact ⟨c3, rfl, HCO.out, HOF.out, HEF.out⟩
end Go.Proofs.YtmpciohmljpncaaGreatDoor
namespace Go.Proofs.YtmpciohmljpncaaGreatDoor
open Go.ChangeShapes Go.WideShapes Go.ChangeAt Go.RowKit Go.Lib Go.Shelf
theorem ruleN_core (m n : Int) (r : RuleD) : ruleN m n r.core = ruleN m n r := rfl
theorem genR_small (L : List Int) (r : RuleD) (h : r.core = genR L) : r.P.length ≤ 100 ∧ (∀ p ∈ r.P, 1 ≤ p.1 ∧ p.1 ≤ 1000) ∧ 0 ≤ r.mi ∧ r.mi ≤ 1000 := by
 have h1' : r.core.P = (genR L).P := congrArg RuleD.P h
 have h2' : r.core.mi = (genR L).mi := congrArg RuleD.mi h
 have h1 : r.P = (genR L).P := h1'
 have h2 : r.mi = (genR L).mi := h2'
 rw [h1, h2, genR_P, genR_mi]
 obtain ⟨k3, hk3⟩ : ∃ k, kN L 3 = k := ⟨_, rfl⟩
 obtain ⟨k4, hk4⟩ : ∃ k, kN L 4 = k := ⟨_, rfl⟩
 rw [hk3, hk4]
 refine ⟨by split <;> simp, ?_, ?_⟩
 ·intro p hp
  split at hp
  ·rcases List.mem_cons.1 hp with rfl | hp
   ·show 1 ≤ 1 + (k3 : Int) % 4 ∧ 1 + (k3 : Int) % 4 ≤ 1000
    omega
   ·rw [List.mem_singleton.1 hp]
    show 1 ≤ 1 + ((k3 : Int) + 1) % 4 ∧ 1 + ((k3 : Int) + 1) % 4 ≤ 1000
    omega
  ·rw [List.mem_singleton.1 hp]
   show 1 ≤ 1 + (k3 : Int) % 4 ∧ 1 + (k3 : Int) % 4 ≤ 1000
   omega
 ·split <;> omega
theorem range_set {w : World} {b o : Nat} {cs : List Value} (h : w.rangeAt b o cs) {b5 : Nat} (hne : b ≠ b5) (j : Nat) (v : Value) : (w.setCell ⟨b5, j, none⟩ v).rangeAt b o cs := fun i u hu => by
 have hb : (w.setCell ⟨b5, j, none⟩ v).heap[b]? = w.heap[b]? := Below.heap_setCell _ _ _ _ hne
 rw [World.cell?_of_block (a := ⟨b, o + i, none⟩) hb]
 exact h i u hu
/-- what a round leaves: nothing of the old world but the box -/
theorem keeps_round {X : Nat → Prop} {W w1 w2 : World} {b5 : Nat} (h : Keeps (fun g => g = b5) W w1) (k : Keeps X w1 w2) (hX : ∀ g, X g → W.heap.size ≤ g) (j : Nat) (v : Value) : Keeps (fun g => g = b5) W (w2.setCell ⟨b5, j, none⟩ v) := by
 have h12 : Keeps (fun g => g = b5) W w2 := ⟨k.os.trans h.os, k.tape.trans h.tape, k.output.trans h.output, Nat.le_trans h.size k.size, fun i hi hn => (k.block i (Nat.lt_of_lt_of_le hi h.size) (fun hx => by have := hX i hx; omega)).trans (h.block i hi hn)⟩
 exact h12.trans (Keeps.of_set (X := fun g => g = b5) w2 b5 j v rfl)
set_option maxRecDepth 100000 in
set_option maxHeartbeats 16000000 in
theorem conf_tail11 (L : List Int) (a : Option Addr) (c : Nat) (w W : World) (b5 : Nat) (x : Nat → Value) (xa : Option Addr) (xc : Nat) (Rs : List RuleD) (e0 : x 0 = .slice a L.length c) (e2 : x 2 = .pointer (some ⟨w.heap.size, 0, none⟩)) (e4 : x 4 = .int .i64 (svcsM L : Nat)) (e5 : x 5 = .pointer (some ⟨b5, 0, none⟩)) (e11 : x 11 = .int .i64 (pk L 7 : Nat)) (e12 : x 12 = .slice xa Rs.length xc) (c1 : ConfD) (hcore : c1.cor2 = confC L 0) (hcs : CS w W w.heap.size b5 c1) (hrc : Rs.map RuleD.core = genRs (L.drop (min L.length 9)) (rulesN (L.drop (min L.length 9)))) (hrs : W.ownsRow w.heap.size 57 19 (.slice xa Rs.length xc) Rs.length (Rs.flatMap encR)) (hro : ∀ r ∈ Rs, RuleOwn w.heap.size W r) (hs : Ints w (.slice a L.length c) L) (hL : ∀ x ∈ L, I64 x) :
  Code.wp Tryz.prog (confTail 11) (bodyPost Tryz.prog Tryz.f4 (ConfP L w)) ⟨frameOf 236 x, []⟩ W := by
 conv => arg 2; whnf
 rw [frame236]
 simp only [e0, e2, e4, e5, e11, e12]
 clear e0 e2 e4 e5 e11 e12
 obtain ⟨dd, hd1, hd2⟩ := Tryz.ruleDesc
 obtain ⟨ir, zr, hir0, hir1, hir2, hir3, hir4⟩ := info_partsN Tryz.infoR
 have hm := svcsM_bd L
 have HPK := hide (fun k X (hX : Ext w X) => pick_any L k (.slice a L.length c) X (hs.ext hX) hL)
 have hcr0 : c1.core = confC L 0 := ConfD.of_cor2 hcore
 have hrv0 : c1.rv = .slice none 0 0 := congrArg (fun c => c.rv) hcore
 have hR0 : c1.R = [] := by
  have := congrArg (fun c => c.R) hcr0
  exact List.map_eq_nil_iff.1 this
 have hb0 : W.ownsRow W.heap.size 57 19 c1.rv c1.R.length (c1.R.flatMap encR) := by rw [hrv0, hR0]; exact World.ownsRow_nil _ _ _ _
 have hlR : Rs.length = rulesN (L.drop (min L.length 9)) := by simpa [genRs_len] using congrArg List.length hrc
 have hem : numR L = min 4 Rs.length := by rw [hlR]; rfl
 have hrcx : ∀ (i : Nat) (hi : i < Rs.length), (Rs[i]).core = genR ((L.drop (min L.length 9)).drop (8 * i)) := fun i hi => by
  have h1 : (Rs.map RuleD.core)[i]? = (genRs (L.drop (min L.length 9)) (rulesN (L.drop (min L.length 9))))[i]? := by rw [hrc]
  rw [List.getElem?_map, List.getElem?_eq_getElem hi] at h1
  have h2 : (genRs (L.drop (min L.length 9)) (rulesN (L.drop (min L.length 9))))[i]? = some (genR ((L.drop (min L.length 9)).drop (8 * i))) := by
   unfold genRs
   rw [List.getElem?_map, List.getElem?_range (by omega)]
   rfl
  rw [h2] at h1
  exact Option.some.inj h1
 have hrules : Rules W (.slice xa Rs.length xc) Rs := Sl.of_own' encR_len hrs
 have hx5 : ∀ b f, xa = some ⟨b, f, none⟩ → b ≠ b5 := fun b f hb e => by
  subst hb e
  exact absurd (owns_type hrs rfl hcs.box) (by decide)
 obtain ⟨M, hM⟩ : ∃ M, svcsM L = M := ⟨_, rfl⟩
 rw [hM] at hm ⊢
 obtain ⟨EM, hEM⟩ : ∃ E, numR L = E := ⟨_, rfl⟩
 rw [hEM] at hem
 have HM := hide hM
 have HEM := hide hEM
 have HCS := hide hcs
 have HC0 := hide hcr0
 have HB0 := hide hb0
 have HRX := hide hrcx
 have HRU := hide hrules
 have HX5 := hide hx5
 have HRO := hide hro
 have HRS := hide hrs
 obtain ⟨hm1, hm4⟩ := hm
 have hcap : Rs.length ≤ xc := hrules.cap.2.1
 clear hcs hM hs hL hcore hEM hcr0 hrv0 hR0 hb0 hlR hrcx hrules hx5 hro hrs hrc
 go_upto_block 6 with fail
 go_cut [13] from 191 to 218 (fun _ w' => ∃ c', c'.core = confC L (numR L) ∧ CS w w' w.heap.size b5 c')
 case first =>
  go_wp2_with fail
  go_loopw [13] (fun v13 wr => ∃ (tq : Nat) (cc : ConfD), v13 = .int .i64 (tq : Int) ∧ tq ≤ EM ∧ Hid (cc.core = confC L tq) ∧ Hid (CS w wr w.heap.size b5 cc) ∧ Hid (wr.ownsRow W.heap.size 57 19 cc.rv cc.R.length (cc.R.flatMap encR)) ∧ Hid (Keeps (fun g => g = b5) W wr)) (fun i _ => EM - (intOf i).toNat)
  case atStart => exact ⟨0, c1, rfl, by omega, HC0.out, HCS.out, HB0.out, Keeps.refl _ _⟩
  case round =>
   obtain ⟨tq, cc, rfl, ht, hcore, hcs, hown, hkp⟩ := hrel
   have HCR := hide hcore.out
   have HCC := hide hcs.out
   have HOW := hide hown.out
   have HKP := hide hkp.out
   clear hcore hcs hown hkp
   generalize wr = wo at *
   by_cases hlt : tq < EM
   ·have h1 : tq < Rs.length := by omega
    have h1z : (tq : Int) < Rs.length := by omega
    have h2 : (tq : Int) < 4 := by omega
    obtain ⟨b, off, rfl, hbb, hcell⟩ := rules_at HRU.out tq h1
    have hb5 := HX5.out b off rfl
    obtain ⟨r, hr⟩ : ∃ r, Rs[tq] = r := ⟨_, rfl⟩
    rw [hr] at hcell
    have hrg : wo.rangeAt b (off + tq * 19) (encR r) := fun j v hv => (HKP.out.cell (p := ⟨b, off + tq * 19 + j, none⟩) hbb hb5).trans (hcell j v hv)
    have hrx : r.core = genR ((L.drop (min L.length 9)).drop (8 * tq)) := by rw [← hr]; exact HRX.out tq h1
    have hroo : RuleOwn w.heap.size wo r := (HRO.out r (by rw [← hr]; exact List.getElem_mem h1)).keepT HKP.out (OfT.one HCS.out.box) (by decide) (by decide) (by decide)
    obtain ⟨hs1, hs2, hs3⟩ := genR_small _ r hrx
    have pq := pk_lt L (9 + 8 * tq)
    have hpk := HPK.out (9 + 8 * tq) wo.drew (HCC.out.ext.trans (Below.refl _ wo).drew)
    obtain ⟨N, hN⟩ : ∃ N, pk L (9 + 8 * tq) = N := ⟨_, rfl⟩
    rw [hN] at hpk pq
    have e9 : ((9 + 8 * tq : Nat) : Int) = 9 + 8 * (tq : Int) := by omega
    rw [e9] at hpk
    obtain ⟨q, hq⟩ : ∃ q, N / 3 = q := ⟨_, rfl⟩
    have e0 : Ext wo wo.drew := (Below.refl _ wo).drew
    have hcd := HCC.out.ext.trans e0
    have hcall := rule16_any r M q w.heap.size wo.drew (hroo.ext e0) hcd.size ⟨hm1, hm4⟩ (by omega) hs1 hs2 hs3
    have td1 : (N : Int).tdiv 3 = (q : Int) := by rw [Int.tdiv_eq_ediv_of_nonneg (by omega)]; omega
    have tw1 : IntKind.i64.wrap (q : Int) = (q : Int) := IntWalk.i64_in _ (by omega)
    have tw2 : IntKind.i64.wrap (8 * (tq : Int)) = 8 * (tq : Int) := IntWalk.i64_in _ (by omega)
    have tw3 : IntKind.i64.wrap (9 + 8 * (tq : Int)) = 9 + 8 * (tq : Int) := IntWalk.i64_in _ (by omega)
    have hRl : cc.R.length ≤ 4 := by
     have := congrArg (fun c => c.R.length) HCR.out
     have e : cc.R.length = tq := by simpa [ConfD.core, confC, rulesC_len] using this
     omega
    obtain ⟨ra, rc, hrv⟩ := owns_shape HCC.out.own.r
    have cv : wo.cell? ⟨b5, 2, none⟩ = some (.slice ra cc.R.length rc) := by rw [← hrv]; exact HCC.out.box.cell 2 _ rfl
    have hqz : (N : Int) / 3 = q := by omega
    have HQZ := hide hqz
    have HN := hide hN
    have HRV := hide hrv
    have HRL := hide hRl
    have HRXX := hide hrx
    have HRG := hide hrg
    have HPQ := hide hpk
    have HCA := hide hcall
    have HLT := hide hlt
    have HB5 := hide hb5
    have hrk : ∀ X, Keeps (fun q => (Value.slice ra cc.R.length rc).ownBlock = some q) wo.drew X → X.rangeAt b (off + tq * 19) (encR r) := fun X hX j v hv => (hX.cell (p := ⟨b, off + tq * 19 + j, none⟩) (Nat.lt_of_lt_of_le hbb HKP.out.size) (fun e => by
      rw [← hrv] at e
      have := (HOW.out.lt b e).1
      omega)).trans (hrg j v hv)
    have HRK := hide hrk
    have HE0 := hide e0
    have how := HOW.out
    rw [hrv] at how
    have HWO := hide how
    clear hrk e0 hcd how hqz hN hrv hRl hrx hrg hpk hcall hcell hroo hs1 hs2 hs3 hq e9 hr hlt hb5 hbb pq ht
    go_upto_region 27 with (fail)
    refine wp_region_held_drew (S := fun w' => w'.rangeAt b (off + tq * 19) (encR r)) (by kernel_rfl) HRG.out (fun hHeld => ?_)
    refine wpAnyH_take (i := 2) (v := (.slice (some ⟨b, off, none⟩) Rs.length xc)) rfl (by kernel_rfl) (by kernel_rfl) (by kernel_rfl) (fun _ _ _ h => h) (Or.inl ⟨by rfl, ?_⟩) hHeld ?_
    ·intro w hSw; go_simp
    simp only [Act.put, List.setIfInBounds_toArray]
    refine wpAnyH_take (i := 3) (v := (.int .i64 (tq : Int))) rfl (by kernel_rfl) (by kernel_rfl) (by kernel_rfl) (fun _ _ _ h => h) (Or.inl ⟨by rfl, ?_⟩) hHeld ?_
    ·intro w hSw; go_simp
    simp only [Act.put]
    refine wpAnyH_take (i := 4) (v := (.pointer (some ⟨b, off + tq * 19, none⟩))) rfl (by kernel_rfl) (by kernel_rfl) (by kernel_rfl) (fun _ _ _ h => h) (Or.inl ⟨by rfl, ?_⟩) hHeld ?_
    ·intro w hSw; go_simp
    simp only [Act.put]
    refine wpAnyH_take (i := 5) rfl (by kernel_rfl) (by kernel_rfl) (by kernel_rfl) (fun _ _ _ h => h) (yieldsIf_load_mid (by rfl) _ _ rfl b (off + tq * 19) rfl (encR r) dd (fun _ h => h) hd1 hd2 Tryz.ruleSize) hHeld ?_
    simp only [Act.put]
    refine wpAnyH_take (i := 0) (v := (.pointer (some ⟨b5, 2, none⟩))) rfl (by kernel_rfl) (by kernel_rfl) (by kernel_rfl) (fun _ _ _ h => h) (Or.inl ⟨by rfl, ?_⟩) hHeld ?_
    ·intro w hSw; go_simp
    simp only [Act.put]
    refine wpAnyH_take (i := 6) (v := (.int .i64 (M : Int))) rfl (by kernel_rfl) (by kernel_rfl) (by kernel_rfl) (fun _ _ _ h => h) (Or.inl ⟨by rfl, ?_⟩) hHeld ?_
    ·intro w hSw; go_simp
    simp only [Act.put]
    refine wpAnyH_take (i := 7) (v := (.slice a L.length c)) rfl (by kernel_rfl) (by kernel_rfl) (by kernel_rfl) (fun _ _ _ h => h) (Or.inl ⟨by rfl, ?_⟩) hHeld ?_
    ·intro w hSw; go_simp
    simp only [Act.put]
    refine wpAnyH_take (i := 8) (v := (.int .i64 (tq : Int))) rfl (by kernel_rfl) (by kernel_rfl) (by kernel_rfl) (fun _ _ _ h => h) (Or.inl ⟨by rfl, ?_⟩) hHeld ?_
    ·intro w hSw; go_simp
    simp only [Act.put]
    refine wpAnyH_take (i := 9) (v := (.int .i64 (8 * (tq : Int)))) rfl (by kernel_rfl) (by kernel_rfl) (by kernel_rfl) (fun _ _ _ h => h) (Or.inl ⟨by rfl, ?_⟩) hHeld ?_
    ·intro w hSw; go_simp
    simp only [Act.put]
    refine wpAnyH_take (i := 10) (v := (.int .i64 (9 + 8 * (tq : Int)))) rfl (by kernel_rfl) (by kernel_rfl) (by kernel_rfl) (fun _ _ _ h => h) (Or.inl ⟨by rfl, ?_⟩) hHeld ?_
    ·intro w hSw; go_simp
    simp only [Act.put]
    refine wpAnyH_ready (rs := [1, 11]) (by kernel_rfl) (by simp) ?_
    refine AllReadyH.cons rfl (fun K hK => ?_) (AllReadyH.cons rfl (fun K hK => ?_) AllReadyH.nil)
    ·go_simp
     refine hK.out _ _ ?_ (fun hHeld => ?_)
     ·(try dsimp only); (first | exact HRG.out | exact hr7 | exact hr8 | exact hr6 | exact hr9)
     clear hK K
     refine wpAnyH_ready (rs := [11]) (by kernel_rfl) (by simp) ?_
     refine AllReadyH.cons rfl (fun K hK => ?_) AllReadyH.nil
     go_simp
     go_wp2_with (first | (go_simp; go_at_call 8; refine (HPQ.out).mono ?_; rintro e w5 ⟨rfl, rfl⟩))
     refine hK.out _ _ ?_ (fun hHeld => ?_)
     ·(try dsimp only); (first | exact HRG.out | exact hr7 | exact hr8 | exact hr6 | exact hr9)
     clear hK K
     refine wpAnyH_take (i := 12) (v := (.int .i64 (q : Int))) rfl (by kernel_rfl) (by kernel_rfl) (by kernel_rfl) (fun _ _ _ h => h) (Or.inl ⟨by rfl, ?_⟩) hHeld ?_
     ·intro w hSw; go_simp
     simp only [Act.put, List.setIfInBounds_toArray]
     refine wpAnyH_ready (rs := [13]) (by kernel_rfl) (by simp) ?_
     refine AllReadyH.cons rfl (fun K hK => ?_) AllReadyH.nil
     go_simp
     go_wp2_with (first | (go_simp; go_at_call 11; refine (HCA.out).mono ?_; rintro e w7 ⟨r9, rfl, hc9, ho9, E9⟩; have cv7 : w7.cell? ⟨b5, 2, none⟩ = some (.slice ra cc.R.length rc) := (E9.cell (p := ⟨b5, 2, none⟩) HCC.out.box.lt).trans cv; have hlt7 : b5 < w7.heap.size := Nat.lt_of_lt_of_le HCC.out.box.lt E9.size; have hr7 := HRK.out w7 (Keeps.of_ext E9); have hr9 := HRK.out _ (Keeps.of_ext (E9.trans ((Below.refl _ w7).alloc (Nat.le_refl _) (.cells (encR r9).toArray 57)))); simp only [RuleD.val]))
     refine hK.out _ _ ?_ (fun hHeld => ?_)
     ·(try dsimp only); (first | exact HRG.out | exact hr7 | exact hr8 | exact hr6 | exact hr9)
     clear hK K
     refine wpAnyH_ready (rs := [14]) (by kernel_rfl) (by simp) ?_
     refine AllReadyH.cons rfl (fun K hK => ?_) AllReadyH.nil
     go_simp
     refine hK.out _ _ ?_ (fun hHeld => ?_)
     ·(try dsimp only); (first | exact HRG.out | exact hr7 | exact hr8 | exact hr6 | exact hr9)
     clear hK K
     refine wpAnyH_ready (rs := [15]) (by kernel_rfl) (by simp) ?_
     refine AllReadyH.cons rfl (fun K hK => ?_) AllReadyH.nil
     (refine step_append_own (by rfl) _ _ _ (by rfl) W.heap.size 57 ir zr 19 232 Tryz.underlying25 hir0 hir1 hir2 hir3 hir4 (by omega) (.slice ra cc.R.length rc) cc.R.length _ (by rfl) ((owns_ext HWO.out (HE0.out.trans E9)).alloc _) ⟨w7.heap.size, 0, none⟩ 1 1 (encR r9) (by rfl) (by rfl) (World.news_of_block (cs := (encR r9).toArray) (t := 57) (fr := (0, 0)) (heap_alloc_new w7 _)) (encR_one' r9 ho9.ok) (by have := HRL.out; unfold maxLen; omega) (by have := HRL.out; omega) (by have hh1 := HKP.out.size; have hh2 : wo.heap.size ≤ w7.heap.size := E9.size; simp; omega) ?_; intro v2 w6 hown2 hgrow2 _; obtain ⟨a2, c2, rfl⟩ := owns_shape hown2; have hk6 := Keeps.of_grown (X := fun q => (Value.slice ra cc.R.length rc).ownBlock = some q) hgrow2 (fun _ h => h); have eA : Ext w7 (w7.alloc (.cells (encR r9).toArray 57)) := ((Below.refl _ w7).alloc (Nat.le_refl _) _); have hC7 := HCC.out.keep (HE0.out.trans (E9.trans eA)); have hb6 := hC7.box.keep (hk6.block b5 hC7.box.lt (fun e => absurd (owns_type (by have := hC7.own.r; rw [HRV.out] at this; exact this) e hC7.box) (by decide))); have cv6 : w6.cell? ⟨b5, 2, none⟩ = some cc.rv := hb6.cell 2 _ rfl; have fv6 := hb6.frozen 2; have hr6 : w6.rangeAt b (off + tq * 19) (encR r) := HRK.out _ ((Keeps.of_ext (E9.trans eA)).trans hk6); have hr8 : (w6.setCell ⟨b5, 2, none⟩ (.slice a2 (cc.R.length + 1) c2)).rangeAt b (off + tq * 19) (encR r) := range_set hr6 HB5.out _ _)
     refine hK.out _ _ ?_ (fun hHeld => ?_)
     ·(try dsimp only); (first | exact HRG.out | exact hr7 | exact hr8 | exact hr6 | exact hr9)
     clear hK K
     refine wpAnyH_take (i := 16) (v := (.pointer (some ⟨b5, 2, none⟩))) rfl (by kernel_rfl) (by kernel_rfl) (by kernel_rfl) (fun _ _ _ h => h) (Or.inl ⟨by rfl, ?_⟩) hHeld ?_
     ·intro w hSw; go_simp
     simp only [Act.put, List.setIfInBounds_toArray]
     refine wpAnyH_ready (rs := [17]) (by kernel_rfl) (by simp) ?_
     refine AllReadyH.cons rfl (fun K hK => ?_) AllReadyH.nil
     go_simp
     refine hK.out _ _ ?_ (fun hHeld => ?_)
     ·(try dsimp only); (first | exact HRG.out | exact hr7 | exact hr8 | exact hr6 | exact hr9)
     clear hK K
     refine wpAnyH_done (by kernel_rfl) ?_ _
     have hk7 : Keeps (fun q => cc.rv.ownBlock = some q) (w7.alloc (.cells (encR r9).toArray 57)) w6 := by rw [HRV.out]; exact hk6
     have hC3 := hC7.addR (s := r9) hk7 (owns_le hown2 HCS.out.ext.size) (ho9.ext eA)
     have hB3 : (w6.setCell ⟨b5, 2, none⟩ (.slice a2 (cc.R.length + 1) c2)).ownsRow W.heap.size 57 19 (.slice a2 (cc.R.length + 1) c2) (cc.R ++ [r9]).length ((cc.R ++ [r9]).flatMap encR) := by
      have := owns_keepT hown2 (Keeps.of_set (X := fun g => g = b5) w6 b5 2 (.slice a2 (cc.R.length + 1) c2) rfl) (OfT.one hb6) (by decide)
      simpa using this
     have hK3 := keeps_round HKP.out ((Keeps.of_ext (HE0.out.trans (E9.trans eA))).trans hk7) (fun g hg => (HOW.out.lt g hg).1) 2 (.slice a2 (cc.R.length + 1) c2)
     have hcore3 : ({ cc with rv := .slice a2 (cc.R.length + 1) c2, R := cc.R ++ [r9] } : ConfD).core = confC L (tq + 1) := by
      show ({ cc.core with R := (cc.R ++ [r9]).map RuleD.core } : ConfD) = _
      have e1 : cc.R.map RuleD.core = rulesC L (svcsM L) tq := congrArg (fun c => c.R) HCR.out
      rw [List.map_append, e1, HCR.out, List.map_cons, hc9, ← ruleN_core, HRXX.out, ← HQZ.out, ← HN.out, ← HM.out]
      show ({ genC L with R := _ } : ConfD) = { genC L with R := rulesC L (svcsM L) (tq + 1) }
      rw [rulesC_succ]
      rfl
     have HC3 := hide hC3
     have HB3 := hide hB3
     have HK3 := hide hK3
     have HCO3 := hide hcore3
     have htm := HLT.out
     clear hlt7 hr6 hr7 hr8 hr9 hC3 hB3 hK3 hcore3 hk7 hk6 hown2 hgrow2 hb6 cv6 fv6 cv cv7 hC7 eA E9 ho9 hc9 td1 tw1 tw2 tw3 hem
     go_wp2
     go_roundw
     case rel => exact ⟨tq + 1, _, (by show Value.int .i64 _ = Value.int .i64 _; congr 1), by omega, HCO3.out, HC3.out, HB3.out, HK3.out⟩
     case measure => simp [intOf] <;> omega
    ·go_simp
     go_wp2_with (first | (go_simp; go_at_call 8; refine (HPQ.out).mono ?_; rintro e w5 ⟨rfl, rfl⟩))
     refine hK.out _ _ ?_ (fun hHeld => ?_)
     ·(try dsimp only); (first | exact HRG.out | exact hr7 | exact hr8 | exact hr6 | exact hr9)
     clear hK K
     refine wpAnyH_take (i := 12) (v := (.int .i64 (q : Int))) rfl (by kernel_rfl) (by kernel_rfl) (by kernel_rfl) (fun _ _ _ h => h) (Or.inl ⟨by rfl, ?_⟩) hHeld ?_
     ·intro w hSw; go_simp
     simp only [Act.put, List.setIfInBounds_toArray]
     refine wpAnyH_ready (rs := [1, 13]) (by kernel_rfl) (by simp) ?_
     refine AllReadyH.cons rfl (fun K hK => ?_) (AllReadyH.cons rfl (fun K hK => ?_) AllReadyH.nil)
     ·go_simp
      refine hK.out _ _ ?_ (fun hHeld => ?_)
      ·(try dsimp only); (first | exact HRG.out | exact hr7 | exact hr8 | exact hr6 | exact hr9)
      clear hK K
      refine wpAnyH_ready (rs := [13]) (by kernel_rfl) (by simp) ?_
      refine AllReadyH.cons rfl (fun K hK => ?_) AllReadyH.nil
      go_simp
      go_wp2_with (first | (go_simp; go_at_call 11; refine (HCA.out).mono ?_; rintro e w7 ⟨r9, rfl, hc9, ho9, E9⟩; have cv7 : w7.cell? ⟨b5, 2, none⟩ = some (.slice ra cc.R.length rc) := (E9.cell (p := ⟨b5, 2, none⟩) HCC.out.box.lt).trans cv; have hlt7 : b5 < w7.heap.size := Nat.lt_of_lt_of_le HCC.out.box.lt E9.size; have hr7 := HRK.out w7 (Keeps.of_ext E9); have hr9 := HRK.out _ (Keeps.of_ext (E9.trans ((Below.refl _ w7).alloc (Nat.le_refl _) (.cells (encR r9).toArray 57)))); simp only [RuleD.val]))
      refine hK.out _ _ ?_ (fun hHeld => ?_)
      ·(try dsimp only); (first | exact HRG.out | exact hr7 | exact hr8 | exact hr6 | exact hr9)
      clear hK K
      refine wpAnyH_ready (rs := [14]) (by kernel_rfl) (by simp) ?_
      refine AllReadyH.cons rfl (fun K hK => ?_) AllReadyH.nil
      go_simp
      refine hK.out _ _ ?_ (fun hHeld => ?_)
      ·(try dsimp only); (first | exact HRG.out | exact hr7 | exact hr8 | exact hr6 | exact hr9)
      clear hK K
      refine wpAnyH_ready (rs := [15]) (by kernel_rfl) (by simp) ?_
      refine AllReadyH.cons rfl (fun K hK => ?_) AllReadyH.nil
      (refine step_append_own (by rfl) _ _ _ (by rfl) W.heap.size 57 ir zr 19 232 Tryz.underlying25 hir0 hir1 hir2 hir3 hir4 (by omega) (.slice ra cc.R.length rc) cc.R.length _ (by rfl) ((owns_ext HWO.out (HE0.out.trans E9)).alloc _) ⟨w7.heap.size, 0, none⟩ 1 1 (encR r9) (by rfl) (by rfl) (World.news_of_block (cs := (encR r9).toArray) (t := 57) (fr := (0, 0)) (heap_alloc_new w7 _)) (encR_one' r9 ho9.ok) (by have := HRL.out; unfold maxLen; omega) (by have := HRL.out; omega) (by have hh1 := HKP.out.size; have hh2 : wo.heap.size ≤ w7.heap.size := E9.size; simp; omega) ?_; intro v2 w6 hown2 hgrow2 _; obtain ⟨a2, c2, rfl⟩ := owns_shape hown2; have hk6 := Keeps.of_grown (X := fun q => (Value.slice ra cc.R.length rc).ownBlock = some q) hgrow2 (fun _ h => h); have eA : Ext w7 (w7.alloc (.cells (encR r9).toArray 57)) := ((Below.refl _ w7).alloc (Nat.le_refl _) _); have hC7 := HCC.out.keep (HE0.out.trans (E9.trans eA)); have hb6 := hC7.box.keep (hk6.block b5 hC7.box.lt (fun e => absurd (owns_type (by have := hC7.own.r; rw [HRV.out] at this; exact this) e hC7.box) (by decide))); have cv6 : w6.cell? ⟨b5, 2, none⟩ = some cc.rv := hb6.cell 2 _ rfl; have fv6 := hb6.frozen 2; have hr6 : w6.rangeAt b (off + tq * 19) (encR r) := HRK.out _ ((Keeps.of_ext (E9.trans eA)).trans hk6); have hr8 : (w6.setCell ⟨b5, 2, none⟩ (.slice a2 (cc.R.length + 1) c2)).rangeAt b (off + tq * 19) (encR r) := range_set hr6 HB5.out _ _)
      refine hK.out _ _ ?_ (fun hHeld => ?_)
      ·(try dsimp only); (first | exact HRG.out | exact hr7 | exact hr8 | exact hr6 | exact hr9)
      clear hK K
      refine wpAnyH_take (i := 16) (v := (.pointer (some ⟨b5, 2, none⟩))) rfl (by kernel_rfl) (by kernel_rfl) (by kernel_rfl) (fun _ _ _ h => h) (Or.inl ⟨by rfl, ?_⟩) hHeld ?_
      ·intro w hSw; go_simp
      simp only [Act.put, List.setIfInBounds_toArray]
      refine wpAnyH_ready (rs := [17]) (by kernel_rfl) (by simp) ?_
      refine AllReadyH.cons rfl (fun K hK => ?_) AllReadyH.nil
      go_simp
      refine hK.out _ _ ?_ (fun hHeld => ?_)
      ·(try dsimp only); (first | exact HRG.out | exact hr7 | exact hr8 | exact hr6 | exact hr9)
      clear hK K
      refine wpAnyH_done (by kernel_rfl) ?_ _
      have hk7 : Keeps (fun q => cc.rv.ownBlock = some q) (w7.alloc (.cells (encR r9).toArray 57)) w6 := by rw [HRV.out]; exact hk6
      have hC3 := hC7.addR (s := r9) hk7 (owns_le hown2 HCS.out.ext.size) (ho9.ext eA)
      have hB3 : (w6.setCell ⟨b5, 2, none⟩ (.slice a2 (cc.R.length + 1) c2)).ownsRow W.heap.size 57 19 (.slice a2 (cc.R.length + 1) c2) (cc.R ++ [r9]).length ((cc.R ++ [r9]).flatMap encR) := by
       have := owns_keepT hown2 (Keeps.of_set (X := fun g => g = b5) w6 b5 2 (.slice a2 (cc.R.length + 1) c2) rfl) (OfT.one hb6) (by decide)
       simpa using this
      have hK3 := keeps_round HKP.out ((Keeps.of_ext (HE0.out.trans (E9.trans eA))).trans hk7) (fun g hg => (HOW.out.lt g hg).1) 2 (.slice a2 (cc.R.length + 1) c2)
      have hcore3 : ({ cc with rv := .slice a2 (cc.R.length + 1) c2, R := cc.R ++ [r9] } : ConfD).core = confC L (tq + 1) := by
       show ({ cc.core with R := (cc.R ++ [r9]).map RuleD.core } : ConfD) = _
       have e1 : cc.R.map RuleD.core = rulesC L (svcsM L) tq := congrArg (fun c => c.R) HCR.out
       rw [List.map_append, e1, HCR.out, List.map_cons, hc9, ← ruleN_core, HRXX.out, ← HQZ.out, ← HN.out, ← HM.out]
       show ({ genC L with R := _ } : ConfD) = { genC L with R := rulesC L (svcsM L) (tq + 1) }
       rw [rulesC_succ]
       rfl
      have HC3 := hide hC3
      have HB3 := hide hB3
      have HK3 := hide hK3
      have HCO3 := hide hcore3
      have htm := HLT.out
      clear hlt7 hr6 hr7 hr8 hr9 hC3 hB3 hK3 hcore3 hk7 hk6 hown2 hgrow2 hb6 cv6 fv6 cv cv7 hC7 eA E9 ho9 hc9 td1 tw1 tw2 tw3 hem
      go_wp2
      go_roundw
      case rel => exact ⟨tq + 1, _, (by show Value.int .i64 _ = Value.int .i64 _; congr 1), by omega, HCO3.out, HC3.out, HB3.out, HK3.out⟩
      case measure => simp [intOf] <;> omega
     ·go_simp
      go_wp2_with (first | (go_simp; go_at_call 11; refine (HCA.out).mono ?_; rintro e w7 ⟨r9, rfl, hc9, ho9, E9⟩; have cv7 : w7.cell? ⟨b5, 2, none⟩ = some (.slice ra cc.R.length rc) := (E9.cell (p := ⟨b5, 2, none⟩) HCC.out.box.lt).trans cv; have hlt7 : b5 < w7.heap.size := Nat.lt_of_lt_of_le HCC.out.box.lt E9.size; have hr7 := HRK.out w7 (Keeps.of_ext E9); have hr9 := HRK.out _ (Keeps.of_ext (E9.trans ((Below.refl _ w7).alloc (Nat.le_refl _) (.cells (encR r9).toArray 57)))); simp only [RuleD.val]))
      refine hK.out _ _ ?_ (fun hHeld => ?_)
      ·(try dsimp only); (first | exact HRG.out | exact hr7 | exact hr8 | exact hr6 | exact hr9)
      clear hK K
      refine wpAnyH_ready (rs := [1, 14]) (by kernel_rfl) (by simp) ?_
      refine AllReadyH.cons rfl (fun K hK => ?_) (AllReadyH.cons rfl (fun K hK => ?_) AllReadyH.nil)
      ·go_simp
       refine hK.out _ _ ?_ (fun hHeld => ?_)
       ·(try dsimp only); (first | exact HRG.out | exact hr7 | exact hr8 | exact hr6 | exact hr9)
       clear hK K
       refine wpAnyH_ready (rs := [14]) (by kernel_rfl) (by simp) ?_
       refine AllReadyH.cons rfl (fun K hK => ?_) AllReadyH.nil
       go_simp
       refine hK.out _ _ ?_ (fun hHeld => ?_)
       ·(try dsimp only); (first | exact HRG.out | exact hr7 | exact hr8 | exact hr6 | exact hr9)
       clear hK K
       refine wpAnyH_ready (rs := [15]) (by kernel_rfl) (by simp) ?_
       refine AllReadyH.cons rfl (fun K hK => ?_) AllReadyH.nil
       (refine step_append_own (by rfl) _ _ _ (by rfl) W.heap.size 57 ir zr 19 232 Tryz.underlying25 hir0 hir1 hir2 hir3 hir4 (by omega) (.slice ra cc.R.length rc) cc.R.length _ (by rfl) ((owns_ext HWO.out (HE0.out.trans E9)).alloc _) ⟨w7.heap.size, 0, none⟩ 1 1 (encR r9) (by rfl) (by rfl) (World.news_of_block (cs := (encR r9).toArray) (t := 57) (fr := (0, 0)) (heap_alloc_new w7 _)) (encR_one' r9 ho9.ok) (by have := HRL.out; unfold maxLen; omega) (by have := HRL.out; omega) (by have hh1 := HKP.out.size; have hh2 : wo.heap.size ≤ w7.heap.size := E9.size; simp; omega) ?_; intro v2 w6 hown2 hgrow2 _; obtain ⟨a2, c2, rfl⟩ := owns_shape hown2; have hk6 := Keeps.of_grown (X := fun q => (Value.slice ra cc.R.length rc).ownBlock = some q) hgrow2 (fun _ h => h); have eA : Ext w7 (w7.alloc (.cells (encR r9).toArray 57)) := ((Below.refl _ w7).alloc (Nat.le_refl _) _); have hC7 := HCC.out.keep (HE0.out.trans (E9.trans eA)); have hb6 := hC7.box.keep (hk6.block b5 hC7.box.lt (fun e => absurd (owns_type (by have := hC7.own.r; rw [HRV.out] at this; exact this) e hC7.box) (by decide))); have cv6 : w6.cell? ⟨b5, 2, none⟩ = some cc.rv := hb6.cell 2 _ rfl; have fv6 := hb6.frozen 2; have hr6 : w6.rangeAt b (off + tq * 19) (encR r) := HRK.out _ ((Keeps.of_ext (E9.trans eA)).trans hk6); have hr8 : (w6.setCell ⟨b5, 2, none⟩ (.slice a2 (cc.R.length + 1) c2)).rangeAt b (off + tq * 19) (encR r) := range_set hr6 HB5.out _ _)
       refine hK.out _ _ ?_ (fun hHeld => ?_)
       ·(try dsimp only); (first | exact HRG.out | exact hr7 | exact hr8 | exact hr6 | exact hr9)
       clear hK K
       refine wpAnyH_take (i := 16) (v := (.pointer (some ⟨b5, 2, none⟩))) rfl (by kernel_rfl) (by kernel_rfl) (by kernel_rfl) (fun _ _ _ h => h) (Or.inl ⟨by rfl, ?_⟩) hHeld ?_
       ·intro w hSw; go_simp
       simp only [Act.put, List.setIfInBounds_toArray]
       refine wpAnyH_ready (rs := [17]) (by kernel_rfl) (by simp) ?_
       refine AllReadyH.cons rfl (fun K hK => ?_) AllReadyH.nil
       go_simp
       refine hK.out _ _ ?_ (fun hHeld => ?_)
       ·(try dsimp only); (first | exact HRG.out | exact hr7 | exact hr8 | exact hr6 | exact hr9)
       clear hK K
       refine wpAnyH_done (by kernel_rfl) ?_ _
       have hk7 : Keeps (fun q => cc.rv.ownBlock = some q) (w7.alloc (.cells (encR r9).toArray 57)) w6 := by rw [HRV.out]; exact hk6
       have hC3 := hC7.addR (s := r9) hk7 (owns_le hown2 HCS.out.ext.size) (ho9.ext eA)
       have hB3 : (w6.setCell ⟨b5, 2, none⟩ (.slice a2 (cc.R.length + 1) c2)).ownsRow W.heap.size 57 19 (.slice a2 (cc.R.length + 1) c2) (cc.R ++ [r9]).length ((cc.R ++ [r9]).flatMap encR) := by
        have := owns_keepT hown2 (Keeps.of_set (X := fun g => g = b5) w6 b5 2 (.slice a2 (cc.R.length + 1) c2) rfl) (OfT.one hb6) (by decide)
        simpa using this
       have hK3 := keeps_round HKP.out ((Keeps.of_ext (HE0.out.trans (E9.trans eA))).trans hk7) (fun g hg => (HOW.out.lt g hg).1) 2 (.slice a2 (cc.R.length + 1) c2)
       have hcore3 : ({ cc with rv := .slice a2 (cc.R.length + 1) c2, R := cc.R ++ [r9] } : ConfD).core = confC L (tq + 1) := by
        show ({ cc.core with R := (cc.R ++ [r9]).map RuleD.core } : ConfD) = _
        have e1 : cc.R.map RuleD.core = rulesC L (svcsM L) tq := congrArg (fun c => c.R) HCR.out
        rw [List.map_append, e1, HCR.out, List.map_cons, hc9, ← ruleN_core, HRXX.out, ← HQZ.out, ← HN.out, ← HM.out]
        show ({ genC L with R := _ } : ConfD) = { genC L with R := rulesC L (svcsM L) (tq + 1) }
        rw [rulesC_succ]
        rfl
       have HC3 := hide hC3
       have HB3 := hide hB3
       have HK3 := hide hK3
       have HCO3 := hide hcore3
       have htm := HLT.out
       clear hlt7 hr6 hr7 hr8 hr9 hC3 hB3 hK3 hcore3 hk7 hk6 hown2 hgrow2 hb6 cv6 fv6 cv cv7 hC7 eA E9 ho9 hc9 td1 tw1 tw2 tw3 hem
       go_wp2
       go_roundw
       case rel => exact ⟨tq + 1, _, (by show Value.int .i64 _ = Value.int .i64 _; congr 1), by omega, HCO3.out, HC3.out, HB3.out, HK3.out⟩
       case measure => simp [intOf] <;> omega
      ·go_simp
       refine hK.out _ _ ?_ (fun hHeld => ?_)
       ·(try dsimp only); (first | exact HRG.out | exact hr7 | exact hr8 | exact hr6 | exact hr9)
       clear hK K
       refine wpAnyH_ready (rs := [1]) (by kernel_rfl) (by simp) ?_
       refine AllReadyH.cons rfl (fun K hK => ?_) AllReadyH.nil
       go_simp
       refine hK.out _ _ ?_ (fun hHeld => ?_)
       ·(try dsimp only); (first | exact HRG.out | exact hr7 | exact hr8 | exact hr6 | exact hr9)
       clear hK K
       refine wpAnyH_ready (rs := [15]) (by kernel_rfl) (by simp) ?_
       refine AllReadyH.cons rfl (fun K hK => ?_) AllReadyH.nil
       (refine step_append_own (by rfl) _ _ _ (by rfl) W.heap.size 57 ir zr 19 232 Tryz.underlying25 hir0 hir1 hir2 hir3 hir4 (by omega) (.slice ra cc.R.length rc) cc.R.length _ (by rfl) ((owns_ext HWO.out (HE0.out.trans E9)).alloc _) ⟨w7.heap.size, 0, none⟩ 1 1 (encR r9) (by rfl) (by rfl) (World.news_of_block (cs := (encR r9).toArray) (t := 57) (fr := (0, 0)) (heap_alloc_new w7 _)) (encR_one' r9 ho9.ok) (by have := HRL.out; unfold maxLen; omega) (by have := HRL.out; omega) (by have hh1 := HKP.out.size; have hh2 : wo.heap.size ≤ w7.heap.size := E9.size; simp; omega) ?_; intro v2 w6 hown2 hgrow2 _; obtain ⟨a2, c2, rfl⟩ := owns_shape hown2; have hk6 := Keeps.of_grown (X := fun q => (Value.slice ra cc.R.length rc).ownBlock = some q) hgrow2 (fun _ h => h); have eA : Ext w7 (w7.alloc (.cells (encR r9).toArray 57)) := ((Below.refl _ w7).alloc (Nat.le_refl _) _); have hC7 := HCC.out.keep (HE0.out.trans (E9.trans eA)); have hb6 := hC7.box.keep (hk6.block b5 hC7.box.lt (fun e => absurd (owns_type (by have := hC7.own.r; rw [HRV.out] at this; exact this) e hC7.box) (by decide))); have cv6 : w6.cell? ⟨b5, 2, none⟩ = some cc.rv := hb6.cell 2 _ rfl; have fv6 := hb6.frozen 2; have hr6 : w6.rangeAt b (off + tq * 19) (encR r) := HRK.out _ ((Keeps.of_ext (E9.trans eA)).trans hk6); have hr8 : (w6.setCell ⟨b5, 2, none⟩ (.slice a2 (cc.R.length + 1) c2)).rangeAt b (off + tq * 19) (encR r) := range_set hr6 HB5.out _ _)
       refine hK.out _ _ ?_ (fun hHeld => ?_)
       ·(try dsimp only); (first | exact HRG.out | exact hr7 | exact hr8 | exact hr6 | exact hr9)
       clear hK K
       refine wpAnyH_take (i := 16) (v := (.pointer (some ⟨b5, 2, none⟩))) rfl (by kernel_rfl) (by kernel_rfl) (by kernel_rfl) (fun _ _ _ h => h) (Or.inl ⟨by rfl, ?_⟩) hHeld ?_
       ·intro w hSw; go_simp
       simp only [Act.put, List.setIfInBounds_toArray]
       refine wpAnyH_ready (rs := [17]) (by kernel_rfl) (by simp) ?_
       refine AllReadyH.cons rfl (fun K hK => ?_) AllReadyH.nil
       go_simp
       refine hK.out _ _ ?_ (fun hHeld => ?_)
       ·(try dsimp only); (first | exact HRG.out | exact hr7 | exact hr8 | exact hr6 | exact hr9)
       clear hK K
       refine wpAnyH_done (by kernel_rfl) ?_ _
       have hk7 : Keeps (fun q => cc.rv.ownBlock = some q) (w7.alloc (.cells (encR r9).toArray 57)) w6 := by rw [HRV.out]; exact hk6
       have hC3 := hC7.addR (s := r9) hk7 (owns_le hown2 HCS.out.ext.size) (ho9.ext eA)
       have hB3 : (w6.setCell ⟨b5, 2, none⟩ (.slice a2 (cc.R.length + 1) c2)).ownsRow W.heap.size 57 19 (.slice a2 (cc.R.length + 1) c2) (cc.R ++ [r9]).length ((cc.R ++ [r9]).flatMap encR) := by
        have := owns_keepT hown2 (Keeps.of_set (X := fun g => g = b5) w6 b5 2 (.slice a2 (cc.R.length + 1) c2) rfl) (OfT.one hb6) (by decide)
        simpa using this
       have hK3 := keeps_round HKP.out ((Keeps.of_ext (HE0.out.trans (E9.trans eA))).trans hk7) (fun g hg => (HOW.out.lt g hg).1) 2 (.slice a2 (cc.R.length + 1) c2)
       have hcore3 : ({ cc with rv := .slice a2 (cc.R.length + 1) c2, R := cc.R ++ [r9] } : ConfD).core = confC L (tq + 1) := by
        show ({ cc.core with R := (cc.R ++ [r9]).map RuleD.core } : ConfD) = _
        have e1 : cc.R.map RuleD.core = rulesC L (svcsM L) tq := congrArg (fun c => c.R) HCR.out
        rw [List.map_append, e1, HCR.out, List.map_cons, hc9, ← ruleN_core, HRXX.out, ← HQZ.out, ← HN.out, ← HM.out]
        show ({ genC L with R := _ } : ConfD) = { genC L with R := rulesC L (svcsM L) (tq + 1) }
        rw [rulesC_succ]
        rfl
       have HC3 := hide hC3
       have HB3 := hide hB3
       have HK3 := hide hK3
       have HCO3 := hide hcore3
       have htm := HLT.out
       clear hlt7 hr6 hr7 hr8 hr9 hC3 hB3 hK3 hcore3 hk7 hk6 hown2 hgrow2 hb6 cv6 fv6 cv cv7 hC7 eA E9 ho9 hc9 td1 tw1 tw2 tw3 hem
       go_wp2
       go_roundw
       case rel => exact ⟨tq + 1, _, (by show Value.int .i64 _ = Value.int .i64 _; congr 1), by omega, HCO3.out, HC3.out, HB3.out, HK3.out⟩
       case measure => simp [intOf] <;> omega
   ·have hte : tq = EM := by omega
    have HTE := hide hte
    by_cases h4 : tq < Rs.length
    ·have h1z : (tq : Int) < Rs.length := by omega
     obtain rfl : tq = 4 := by omega
     have h1y : (4 : Int) < Rs.length := by omega
     clear h1z h4 hlt ht hem hte
     go_wp2
     go_meet
     case rel => exact ⟨cc, by rw [HEM.out, ← HTE.out]; exact HCR.out, HCC.out⟩
    ·have hb : decide ((tq : Int) < Rs.length) = false := decide_eq_false (by omega)
     have hb2 : decide (tq < Rs.length) = false := decide_eq_false (by omega)
     clear h4 hlt ht hem hte
     go_wp2
     go_meet
     case rel => exact ⟨cc, by rw [HEM.out, ← HTE.out]; exact HCR.out, HCC.out⟩
 case rest =>
  obtain ⟨c', hcore, hcs⟩ := hcut
  (try simp only [Exit.inBlock, Exit.then])
  apply_assumption
  exact of_frame236 _ rfl (conf_tail12 L w wc b5 _ rfl rfl rfl c' hcore hcs)
end Go.Proofs.YtmpciohmljpncaaGreatDoor
