import Derived.Test.YtceaeiaoanhlnaaGreatDoorZcbe
namespace Go.Proofs.YtceaeiaoanhlnaaGreatDoor
open Go.ChangeShapes Go.WideShapes Go.ChangeAt Go.RowKit Go.Lib Go.Shelf
theorem encC_one {B : Nat} {w : World} {c : ConfD} (h : ConfOwn B w c) : ∀ u ∈ encC c, u.oneCell' = true := by
 obtain ⟨a1, c1, h1⟩ := owns_shape h.s
 obtain ⟨a2, c2, h2⟩ := owns_shape h.e
 obtain ⟨a3, c3, h3⟩ := owns_shape h.r
 obtain ⟨a4, c4, h4⟩ := owns_shape h.t
 intro u hu
 unfold encC at hu
 rw [h1, h2, h3, h4] at hu
 simp only [List.mem_cons, List.not_mem_nil, or_false] at hu
 rcases hu with rfl | rfl | rfl | rfl | rfl | rfl | rfl | rfl | rfl | rfl | rfl | rfl | rfl | rfl | rfl | rfl | rfl | rfl | rfl | rfl <;> rfl
set_option maxRecDepth 100000 in
set_option maxHeartbeats 16000000 in
theorem conf_tail12 (L : List Int) (w W : World) (b5 : Nat) (x : Nat → Value) (e2 : x 2 = .pointer (some ⟨w.heap.size, 0, none⟩)) (e5 : x 5 = .pointer (some ⟨b5, 0, none⟩)) (e11 : x 11 = .int .i64 (pk L 7 : Nat)) (c1 : ConfD) (hcore : c1.core = confC L (numR L)) (hcs : CS w W w.heap.size b5 c1) :
  Code.wp Tryz.prog (confTail 12) (bodyPost Tryz.prog Tryz.f25 (ConfP L w)) ⟨frameOf 236 x, []⟩ W := by
 conv => arg 2; whnf
 rw [frame236]
 simp only [e2, e5, e11]
 clear e2 e5 e11
 obtain ⟨cd, hcd1, hcd2⟩ := Tryz.confDesc
 obtain ⟨ir, zr, hir0, hir1, hir2, hir3, hir4⟩ := info_partsN Tryz.infoR
 obtain ⟨ra, rc, hrv⟩ := owns_shape hcs.own.r
 have hRl : c1.R.length ≤ 4 := by
  have := congrArg (fun c => c.R.length) hcore
  have e : c1.R.length = numR L := by simpa [ConfD.core, confC, rulesC_len] using this
  have := numR_le L
  omega
 have p7 := pk_lt L 7
 obtain ⟨N7, hN7⟩ : ∃ N, pk L 7 = N := ⟨_, rfl⟩
 rw [hN7] at p7 ⊢
 have c2c : W.cell? ⟨b5, 2, none⟩ = some (.slice ra c1.R.length rc) := by rw [← hrv]; exact hcs.box.cell 2 _ rfl
 have tf0 : (N7 : Int).tmod 3 = (N7 : Int) % 3 := Int.tmod_eq_emod_of_nonneg (by omega)
 have tf1 : IntKind.i64.wrap ((N7 : Int) % 3) = (N7 : Int) % 3 := IntWalk.i64_in _ (by omega)
 have tf2 : IntKind.i64.wrap (1 + (N7 : Int) % 3) = 1 + (N7 : Int) % 3 := IntWalk.i64_in _ (by omega)
 have tf3 : (N7 : Int).tdiv 3 = (N7 : Int) / 3 := Int.tdiv_eq_ediv_of_nonneg (by omega)
 have tf4 : IntKind.i64.wrap ((N7 : Int) / 3) = (N7 : Int) / 3 := IntWalk.i64_in _ (by omega)
 have tf5 : ((N7 : Int) / 3).tmod 4 = (N7 : Int) / 3 % 4 := Int.tmod_eq_emod_of_nonneg (by omega)
 have tf6 : IntKind.i64.wrap ((N7 : Int) / 3 % 4) = (N7 : Int) / 3 % 4 := IntWalk.i64_in _ (by omega)
 have HN7 := hide hN7
 have HCS := hide hcs
 have HCO := hide hcore
 have HRV := hide hrv
 have HRL := hide hRl
 clear hcs hcore hrv hN7 hRl
 go_upto_region 28 with (fail)
 refine wp_region_lit ?_
 refine wpList_plain rfl fun K hK => ?_
 go_simp
 refine hK _ _ ?_
 refine wpList_plain rfl fun K hK => ?_
 go_simp
 refine hK _ _ ?_
 refine wpList_plain rfl fun K hK => ?_
 go_simp
 refine hK _ _ ?_
 refine wpList_plain rfl fun K hK => ?_
 go_simp
 refine hK _ _ ?_
 refine wpList_plain rfl fun K hK => ?_
 go_simp
 refine hK _ _ ?_
 refine wpList_plain rfl fun K hK => ?_
 go_simp
 refine hK _ _ ?_
 refine wpList_plain rfl fun K hK => ?_
 go_simp
 refine hK _ _ ?_
 refine wpList_plain rfl fun K hK => ?_
 go_simp
 refine hK _ _ ?_
 refine wpList_plain rfl fun K hK => ?_
 go_simp
 refine hK _ _ ?_
 refine wpList_plain rfl fun K hK => ?_
 go_simp
 refine hK _ _ ?_
 refine wpList_plain rfl fun K hK => ?_
 go_simp
 refine hK _ _ ?_
 refine wpList_plain rfl fun K hK => ?_
 go_simp
 refine hK _ _ ?_
 refine wpList_plain rfl fun K hK => ?_
 go_simp
 refine hK _ _ ?_
 refine wpList_plain rfl fun K hK => ?_
 go_simp
 refine hK _ _ ?_
 refine wpList_plain rfl fun K hK => ?_
 go_simp
 refine hK _ _ ?_
 have E1 : Ext W (W.alloc (.cells #[.int .i64 1, .int .i64 1] 103)) := (Below.refl _ _).alloc (Nat.le_refl _) _
 have E2 : Ext (W.alloc (.cells #[.int .i64 1, .int .i64 1] 103)) ((W.alloc (.cells #[.int .i64 1, .int .i64 1] 103)).alloc (.cells #[.string ⟨#[47]⟩, .bool false, .slice none 0 0, .slice (some ⟨W.heap.size, 0, none⟩) 1 1, .int .i64 0, .int .i64 0, .int .i64 0, .int .i64 0, .string ⟨#[]⟩, .slice none 0 0, .slice none 0 0, .int .i64 30, .int .i64 (1 + (N7 : Int) % 3), .int .i64 ((N7 : Int) / 3 % 4), .int .i64 0, .int .i64 1, .int .i64 2, .int .i64 2, .int .i64 0] 54)) := (Below.refl _ _).alloc (Nat.le_refl _) _
 have hxa := E1.trans E2
 have hpo := World.ownsRow_lit (base := w.heap.size) (e := 103) (size := 2) W #[.int .i64 1, .int .i64 1] 1 HCS.out.ext.size (by unfold maxLen; omega) rfl
 obtain ⟨r, hr⟩ : ∃ r : RuleD, r = ⟨⟨#[47]⟩, false, .slice none 0 0, [], .slice (some ⟨W.heap.size, 0, none⟩) 1 1, [(1, 1)], 0, 0, 0, 0, ⟨#[]⟩, .slice none 0 0, [], .slice none 0 0, [], 30, 1 + (N7 : Int) % 3, (N7 : Int) / 3 % 4, 0, 1, 2, 2, 0⟩ := ⟨_, rfl⟩
 have hro : RuleOwn w.heap.size ((W.alloc (.cells #[.int .i64 1, .int .i64 1] 103)).alloc (.cells #[.string ⟨#[47]⟩, .bool false, .slice none 0 0, .slice (some ⟨W.heap.size, 0, none⟩) 1 1, .int .i64 0, .int .i64 0, .int .i64 0, .int .i64 0, .string ⟨#[]⟩, .slice none 0 0, .slice none 0 0, .int .i64 30, .int .i64 (1 + (N7 : Int) % 3), .int .i64 ((N7 : Int) / 3 % 4), .int .i64 0, .int .i64 1, .int .i64 2, .int .i64 2, .int .i64 0] 54)) r := by
  rw [hr]
  exact ⟨World.ownsRow_nil _ _ _ _, owns_ext hpo E2, World.ownsRow_nil _ _ _ _, World.ownsRow_nil _ _ _ _⟩
 have hrc : r.core = lastN N7 := by rw [hr]; rfl
 have hre : encR r = [.string ⟨#[47]⟩, .bool false, .slice none 0 0, .slice (some ⟨W.heap.size, 0, none⟩) 1 1, .int .i64 0, .int .i64 0, .int .i64 0, .int .i64 0, .string ⟨#[]⟩, .slice none 0 0, .slice none 0 0, .int .i64 30, .int .i64 (1 + (N7 : Int) % 3), .int .i64 ((N7 : Int) / 3 % 4), .int .i64 0, .int .i64 1, .int .i64 2, .int .i64 2, .int .i64 0] := by rw [hr]; rfl
 have HRO := hide hro
 have HRC := hide hrc
 have HRE := hide hre
 have hsn := sl_new1 encR_len (W.alloc (.cells #[.int .i64 1, .int .i64 1] 103)) r 54 _ hre
 rw [show (W.alloc (.cells #[.int .i64 1, .int .i64 1] 103)).heap.size = W.heap.size + 1 from Array.size_push _] at hsn
 have HSN := hide hsn
 have HC2 := hide (HCS.out.keep hxa)
 clear hsn hro hrc hre hpo hr tf0 tf1 tf2 tf3 tf4 tf5 tf6 c2c
 refine wpList_append_sl (enc := encR) rfl _ _ _ rfl w.heap.size 54 ir zr 19 232 Tryz.underlying25 hir0 hir1 hir2 hir3 hir4 (by decide) encR_len (.slice ra c1.R.length rc) c1.R.length (c1.R.flatMap encR) rfl (by have := HC2.out.own.r; rw [HRV.out] at this; exact this) (.slice (some ⟨W.heap.size + 1, 0, none⟩) 1 1) rfl [r] HSN.out (fun x hx => by rw [List.mem_singleton.1 hx]; exact encR_one' r HRO.out.ok) (by have := HRL.out; unfold maxLen; simp; omega) (by have := HRL.out; simp; omega) HC2.out.ext.size ?_
 intro v8 w8 hown8 hg8
 have hown8 : w8.ownsRow w.heap.size 54 19 v8 (c1.R.length + 1) (c1.R.flatMap encR ++ [r].flatMap encR) := hown8
 obtain ⟨a8, y8, rfl⟩ := owns_shape hown8
 clear HSN
 generalize ((W.alloc (.cells #[.int .i64 1, .int .i64 1] 103)).alloc (.cells #[.string ⟨#[47]⟩, .bool false, .slice none 0 0, .slice (some ⟨W.heap.size, 0, none⟩) 1 1, .int .i64 0, .int .i64 0, .int .i64 0, .int .i64 0, .string ⟨#[]⟩, .slice none 0 0, .slice none 0 0, .int .i64 30, .int .i64 (1 + (N7 : Int) % 3), .int .i64 ((N7 : Int) / 3 % 4), .int .i64 0, .int .i64 1, .int .i64 2, .int .i64 2, .int .i64 0] 54)) = WW at HRO HC2 hg8
 have hk8 : Keeps (fun q => c1.rv.ownBlock = some q) WW w8 := Keeps.of_grown hg8 (fun q h => by rw [HRV.out]; exact h)
 have hn5 : ¬ c1.rv.ownBlock = some b5 := fun e => absurd (owns_type HC2.out.own.r e HC2.out.box) (by decide)
 have hb8 := HC2.out.box.keep (hk8.block b5 HC2.out.box.lt hn5)
 have c8 : w8.cell? ⟨b5, 2, none⟩ = some c1.rv := hb8.cell 2 _ rfl
 have z8 := hb8.frozen 2
 have hC3 := HC2.out.addR (s := r) hk8 hown8 HRO.out
 have hco3 : ({ c1 with rv := .slice a8 (c1.R.length + 1) y8, R := c1.R ++ [r] } : ConfD).core = genC L := by
  show ({ c1.core with R := (c1.R ++ [r]).map RuleD.core } : ConfD) = _
  have e1 : c1.R.map RuleD.core = rulesC L (svcsM L) (numR L) := congrArg (fun c => c.R) HCO.out
  rw [List.map_append, e1, HCO.out, List.map_cons, HRC.out, ← HN7.out]
  rfl
 have HC3 := hide hC3
 have HCO3 := hide hco3
 clear hC3 hco3 hb8 hn5 hk8 hown8 hg8 hxa E1 E2 HC2 HRO HRC HRE HRV HRL HCS HCO
 refine wpList_plain rfl fun K hK => ?_
 go_simp
 refine hK _ _ ?_
 refine wpList_plain rfl fun K hK => ?_
 go_simp
 refine hK _ _ ?_
 refine wpList_nil ?_
 obtain ⟨c3, hc3⟩ : ∃ c3 : ConfD, ({ c1 with rv := .slice a8 (c1.R.length + 1) y8, R := c1.R ++ [r] } : ConfD) = c3 := ⟨_, rfl⟩
 have hC3 := HC3.out
 have hco3 := HCO3.out
 rw [hc3] at hC3 hco3
 clear HC3 HCO3 hc3 c8 z8
 generalize w8.setCell ⟨b5, 2, none⟩ (.slice a8 (c1.R.length + 1) y8) = W9 at hC3 ⊢
 obtain ⟨cs, h6, hcz⟩ := hC3.bx2
 have HC := hide hC3
 have HCO := hide hco3
 clear hC3 hco3
 go_upto_region 29 with (fail)
 refine wp_region_lit ?_
 refine wpList_load_mid rfl 30 (.tmp 5) rfl b5 0 rfl (encC c3) cd HC.out.box.range hcd1 hcd2 Tryz.confSize ?_
 have hth : W9.there w.heap.size 0 (encC c3).toArray.size := fun j hj => by
  have hj' : j < 20 := hj
  rw [Nat.zero_add]
  refine ⟨?_, by simp [World.frozen?, h6]⟩
  simp only [World.cell?, h6]
  simp [hj', hcz]
 refine wpList_store_mid rfl 30 (.tmp 2) (.tmp 235) rfl w.heap.size 0 (encC c3).toArray rfl rfl hth Tryz.confSize (all_oneCell_toArray (encC_one HC.out.own)) ?_
 refine wpList_nil ?_
 have hrs := World.rangeAt_setCells_same W9 w.heap.size 0 (encC c3) hth
 have hk5 := keeps_setCells w.heap.size (encC c3) 0 W9
 show Exit.then _ _ _ _ (W9.setCells w.heap.size 0 (encC c3))
 generalize W9.setCells w.heap.size 0 (encC c3) = W10 at hrs hk5 ⊢
 have HEF := hide (Keeps.ext HC.out.ext hk5 (fun g hg => by omega))
 have HOF := hide (HC.out.own.keepT hk5 (OfT.one h6) (by decide) (by decide) (by decide) (by decide) (by decide) (by decide) (by decide))
 have HRG := hide hrs
 clear hrs hk5 hth h6 hcz
 simp only [Act.put]
 go_wp2_with (fail)
 (try simp only [Exit.inBlock, Exit.then])
 refine bodyPost_ret (results_cell_mid rfl _ _ w.heap.size 0 (encC c3) cd rfl HRG.out hcd1 hcd2 Tryz.confSize) rfl ?_
 exact ⟨c3, rfl, HCO.out, HOF.out, HEF.out⟩
end Go.Proofs.YtceaeiaoanhlnaaGreatDoor
