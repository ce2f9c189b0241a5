/- Merged texts (TgP, TgW). -/
import Derived.Test.YtmpciohmljpncaaGreatDoorGkH
import Derived.Test.YtmpciohmljpncaaGreatDoorZcb
import Derived.Test.YtmpciohmljpncaaGreatDoorZgc
import Derived.Test.YtmpciohmljpncaaGreatDoorZrw
namespace Go.Proofs.YtmpciohmljpncaaGreatDoor
open Go.ChangeShapes Go.WideShapes Go.ChangeAt Go.RowKit Go.Lib Go.Shelf Go.Maps
/-- a service without kids -/
def SvcD.lone (s : SvcD) : SvcD := { s with kv := .slice none 0 0, K := [] }
def flatC (c : ConfD) (sv : Value) : ConfD := { c with sv := sv, S := c.S.map SvcD.lone, purse := 0 }
theorem there_lone (S : List SvcD) (id : Int) : thereB (S.map SvcD.lone) id = thereB S id := by
 unfold thereB
 rw [List.any_map]
 rfl
theorem svc_lone : ∀ (l a : List SvcD), allAt svcB a l = true → allAt svcB (a.map SvcD.lone) (l.map SvcD.lone) = true
 | [], _, _ => rfl
 | x :: l, a, h => by
  have h : (svcB a x && allAt svcB (a ++ [x]) l) = true := h
  rw [Bool.and_eq_true] at h
  have ih := svc_lone l (a ++ [x]) h.2
  rw [List.map_append] at ih
  show (svcB (a.map SvcD.lone) x.lone && allAt svcB (a.map SvcD.lone ++ [x.lone]) (l.map SvcD.lone)) = true
  rw [Bool.and_eq_true]
  refine ⟨?_, ih⟩
  have := h.1
  unfold svcB at this ⊢
  simp only [Bool.and_eq_true] at this ⊢
  obtain ⟨⟨⟨⟨⟨⟨⟨⟨a1, a2⟩, a3⟩, a4⟩, a5⟩, a6⟩, a7⟩, a8⟩, a9⟩ := this
  exact ⟨⟨⟨⟨⟨⟨⟨⟨a1, by rw [there_lone]; exact a2⟩, rfl⟩, rfl⟩, a5⟩, a6⟩, a7⟩, a8⟩, a9⟩
/-- the numbers of a configuration that is right, with another purse -/
theorem num_purse {c : ConfD} {n : Int} (h : chkC c = 0) (hn : 0 ≤ n ∧ n ≤ 64) : ∀ d : ConfD, d.S.length = c.S.length → allAt svcB [] d.S = true → (∀ id, thereB d.S id = thereB c.S id) → (d.E = c.E ∧ d.R = c.R ∧ d.T = c.T ∧ watchB d = watchB c) → numB d = numB { c with purse := n } → chkC d = 0 := by
 intro d hl hs ht ⟨hE, hR, hT, hW⟩ hN
 obtain ⟨h1, h2, h3, h4, h5, h6, h7⟩ := chkC_ends h
 have h8 : ¬ c.T.all rateB = false ∧ ¬ watchB c = false ∧ ¬ numB c = false := by
  unfold chkC at h
  rw [if_neg (by omega), if_neg (by rw [h4]; decide), if_neg (by rw [h5]; decide), if_neg (by omega), if_neg (by rw [h7]; decide)] at h
  split at h
  ·cases h
  ·split at h
   ·cases h
   ·split at h
    ·cases h
    ·exact ⟨by assumption, by assumption, by assumption⟩
 have e5 : numB { c with purse := n } = true := by
  have := h8.2.2
  unfold numB at this ⊢
  simp only [Bool.not_eq_false, Bool.and_eq_true] at this ⊢
  obtain ⟨⟨⟨⟨⟨⟨⟨⟨b1, b2⟩, b3⟩, b4⟩, b5⟩, b6⟩, b7⟩, b8⟩, b9⟩ := this
  exact ⟨⟨⟨⟨⟨⟨⟨⟨b1, b2⟩, b3⟩, b4⟩, b5⟩, b6⟩, inB_in hn⟩, b8⟩, b9⟩
 have e2 : allAt (fun a e => endB a d.S e) [] d.E = true := by
  rw [hE]
  rw [allAt_spec] at h5 ⊢
  intro k hk
  have := h5 k hk
  simp only [endB, ht] at this ⊢
  exact this
 have e4 : d.R.all (leadB d.S) = true := by
  rw [hR]
  rw [List.all_eq_true] at h7 ⊢
  intro x hx
  have := h7 x hx
  unfold leadB at this ⊢
  simp only [ht]
  exact this
 unfold chkC
 rw [if_neg (by rw [hl, hE, hT]; omega), if_neg (by rw [hs]; decide), if_neg (by rw [e2]; decide), if_neg (by rw [hR, hT]; omega), if_neg (by rw [e4]; decide), if_neg (by rw [hT]; exact h8.1), if_neg (by rw [hW]; exact h8.2.1), if_neg (by rw [hN, e5]; decide)]
theorem more_right {c : ConfD} {n : Int} (h : chkC c = 0) (hn : 0 ≤ n ∧ n ≤ 64) : chkC { c with purse := n } = 0 :=
 num_purse h hn { c with purse := n } rfl (chkC_ends h).2.2.2.1 (fun _ => rfl) ⟨rfl, rfl, rfl, rfl⟩ rfl
theorem flat_right {c : ConfD} (sv : Value) (h : chkC c = 0) : chkC (flatC c sv) = 0 :=
 num_purse h (n := 0) (by omega) (flatC c sv) (by simp [flatC]) (svc_lone c.S [] (chkC_ends h).2.2.2.1) (fun id => there_lone c.S id) ⟨rfl, rfl, rfl, rfl⟩ rfl
theorem purse_of {c : ConfD} (h : chkC c = 0) : 0 ≤ c.purse ∧ c.purse ≤ 64 := by
 obtain ⟨h1, h2, h3, h4, h5, h6, h7⟩ := chkC_ends h
 have h8 : ¬ numB c = false := by
  unfold chkC at h
  rw [if_neg (by omega), if_neg (by rw [h4]; decide), if_neg (by rw [h5]; decide), if_neg (by omega), if_neg (by rw [h7]; decide)] at h
  split at h
  ·cases h
  ·split at h
   ·cases h
   ·split at h
    ·cases h
    ·assumption
 unfold numB at h8
 simp only [Bool.not_eq_false, Bool.and_eq_true] at h8
 obtain ⟨⟨⟨⟨⟨⟨⟨⟨b1, b2⟩, b3⟩, b4⟩, b5⟩, b6⟩, b7⟩, b8⟩, b9⟩ := h8
 unfold inB at b7
 simpa using b7
theorem flat_fit {c : ConfD} (sv : Value) (h : ConfFit c) : ConfFit (flatC c sv) := by
 obtain ⟨h1, h2, h3, h4, h5, h6, h7⟩ := h
 refine ⟨fun s hs => ?_, h2, h3, by simpa [flatC] using h4, h5, h6, h7⟩
 obtain ⟨s0, hs0, rfl⟩ := List.mem_map.1 hs
 obtain ⟨k1, k2, k3, k4, k5, k6, k7⟩ := h1 s0 hs0
 exact ⟨k1, k2, k3, k4, k5, k6, fun p hp => by cases hp⟩
theorem flat_ok {w : World} {c : ConfD} {sv : Value} (h : ConfOk w c) (hs : Svcs w sv (c.S.map SvcD.lone)) : ConfOk w (flatC c sv) := by
 refine ⟨hs, fun s hs => ?_, h.2.2.1, h.2.2.2.1, h.2.2.2.2.1, h.2.2.2.2.2⟩
 obtain ⟨s0, _, rfl⟩ := List.mem_map.1 hs
 exact ⟨by show 0 ≤ 9223372036854775807; omega, none, 0, rfl, ⟨Nat.le_refl _, by omega⟩, fun i x hi => by simp [SvcD.lone] at hi⟩
/-- a greater allowance makes no factor less -/
theorem fact_grows {c : ConfD} {p : Int} (h0 : 0 ≤ c.purse) (h : c.purse ≤ p) (id : Int) : factC c id ≤ factC { c with purse := p } id := by
 show partM (loadC c id) (1 + c.purse) ≤ partM (loadC c id) (1 + p)
 have h1 := (loadC_bd c id).1
 have := Int.mul_le_mul_of_nonneg_left (show 1 + c.purse ≤ 1 + p by omega) h1
 unfold partM
 omega
theorem find_lone (S : List SvcD) (id : Int) : (findS (S.map SvcD.lone) id).K = [] := by
 unfold findS
 cases h : (S.map SvcD.lone).find? fun s => s.id == id with
 | none => rfl
 | some s =>
  obtain ⟨s0, _, rfl⟩ := List.mem_map.1 (List.mem_of_find?_eq_some h)
  rfl
theorem lvl_flat (c : ConfD) (sv : Value) (tg : Int) (d : Nat) (id : Int) : lvl (kidsG (flatC c sv)) tg d id = selfN id tg := by
 cases d with
 | zero => rfl
 | succ d =>
  have : kidsG (flatC c sv) id = [] := by
   have h : (findS (flatC c sv).S id).K = [] := find_lone c.S id
   unfold kidsG
   rw [h]; rfl
  show stpN (kidsG (flatC c sv) id) _ _ = _
  rw [this]; rfl
/-- without an allowance, and without calls of calls -/
theorem fact_flat (c : ConfD) (sv : Value) (id : Int) : factC (flatC c sv) id ≤ 2 := by
 have h1 := loadC_bd (flatC c sv) id
 have h2 : factC (flatC c sv) id = loadC (flatC c sv) id := part_one h1
 have h3 : mostS (flatC c sv).S (lvl (kidsG (flatC c sv)) id (depthC (flatC c sv))) ≤ 1 := great_le_of _ 0 (by decide) fun x _ => by
  rw [lvl_flat]
  unfold selfN
  split <;> decide
 rw [h2]
 unfold loadC sumM
 split <;> omega
theorem conf_one {B : Nat} {w : World} {c : ConfD} (h : ConfOwn B w c) : ∀ u ∈ encC c, u.oneCell' = true := by
 obtain ⟨a1, c1, h1⟩ := owns_shape h.s
 obtain ⟨a2, c2, h2⟩ := owns_shape h.e
 obtain ⟨a3, c3, h3⟩ := owns_shape h.r
 obtain ⟨a4, c4, h4⟩ := owns_shape h.t
 intro u hu
 unfold encC at hu
 rw [h1, h2, h3, h4] at hu
 simp only [List.mem_cons, List.not_mem_nil, or_false] at hu
 rcases hu with rfl | rfl | rfl | rfl | rfl | rfl | rfl | rfl | rfl | rfl | rfl | rfl | rfl | rfl | rfl | rfl | rfl | rfl | rfl | rfl <;> rfl
theorem svc_one {B : Nat} {w : World} {c : ConfD} (h : ConfOwn B w c) {s : SvcD} (hs : s ∈ c.S) : ∀ u ∈ encV s, u.oneCell' = true := by
 obtain ⟨a1, c1, h1⟩ := owns_shape (h.k s hs)
 exact encV_one ⟨_, _, _, h1⟩
theorem row_cell {w : World} {base n g c : Nat} {e : TypeId} {size : Nat} {α : Type} {enc : α → List Value} {xs : List α} (hk : ∀ x, (enc x).length = size) (h : w.ownsRow base e size (.slice (some ⟨g, 0, none⟩) n c) n (xs.flatMap enc)) (i : Nat) (hi : i < xs.length) : w.rangeAt g (i * size) (enc xs[i]) := fun j u hu => by
 have := h.cells (g := g) rfl (i * size + j) u (getElem?_flatMap_enc hk xs i j xs[i] u (List.getElem?_eq_getElem hi) hu)
 rw [add_cell] at this
 exact this
theorem confAlloc (w : World) : (Instr.alloc 30 true (.tuple #[])).run Tryz.prog w = .ok (.pointer (some ⟨w.heap.size, 0, none⟩)) (w.alloc (.cells #[.slice none 0 0, .slice none 0 0, .slice none 0 0, .slice none 0 0, .int .i64 0, .int .i64 0, .int .i64 0, .int .i64 0, .int .i64 0, .int .i64 0, .int .i64 0, .int .i64 0, .int .i64 0, .int .i64 0, .int .i64 0, .int .i64 0, .int .i64 0, .int .i64 0, .int .i64 0, .int .i64 0] 30)) := by kernel_rfl
theorem svcAlloc (w : World) : (Instr.alloc 35 true (.tuple #[])).run Tryz.prog w = .ok (.pointer (some ⟨w.heap.size, 0, none⟩)) (w.alloc (.cells #[.int .i64 0, .slice none 0 0, .int .i64 0, .int .i64 0, .int .i64 0, .int .i64 0, .int .i64 0] 35)) := by kernel_rfl
end Go.Proofs.YtmpciohmljpncaaGreatDoor
namespace Go.Proofs.YtmpciohmljpncaaGreatDoor
open Go.ChangeShapes Go.WideShapes Go.ChangeAt Go.RowKit Go.Lib Go.Shelf Go.Maps
theorem frame61 (x : Nat → Value) : frameOf 61 x = #[x 0, x 1, x 2, x 3, x 4, x 5, x 6, x 7, x 8, x 9, x 10, x 11, x 12, x 13, x 14, x 15, x 16, x 17, x 18, x 19, x 20, x 21, x 22, x 23, x 24, x 25, x 26, x 27, x 28, x 29, x 30, x 31, x 32, x 33, x 34, x 35, x 36, x 37, x 38, x 39, x 40, x 41, x 42, x 43, x 44, x 45, x 46, x 47, x 48, x 49, x 50, x 51, x 52, x 53, x 54, x 55, x 56, x 57, x 58, x 59, x 60] := rfl
set_option maxRecDepth 100000 in
set_option maxHeartbeats 16000000 in
theorem grows_any (L : List Int) (mo : Int) (v : Value) (w : World) (hm : MaxV w) (hs : Ints w v L) (hL : ∀ x ∈ L, I64 x) (hmo : I64 mo)
  (hcf : Calls Tryz.prog 4 #[v] w (ConfP L w))
  (hal : ∀ X, Calls Tryz.prog 7 #[] X fun e w' => e = .returned (.bool true) ∧ Ext X w') :
  Calls Tryz.prog 3 #[v, .int .i64 mo] w fun e w' => e = .returned (.bool true) ∧ Ext w w' := by
 obtain ⟨cd, hcd1, hcd2⟩ := Tryz.confDesc
 obtain ⟨iv, zv, hiv0, hiv1, hiv2, hiv3, hiv4⟩ := info_partsN Tryz.infoV
 obtain ⟨dv, hdv1, hdv2⟩ := Tryz.svcDesc
 have HM := hide hm
 have hA1 := fun X => around_any mo 20 X hmo (by decide)
 have hb1 := around_bd mo 20 (by decide)
 generalize around mo 20 = ar at hA1 hb1
 have HA := hide hA1
 have HCF := hide hcf
 have HAL := hide hal
 clear hm hA1 hs hL hal hcf
 go_enter Tryz.func3, Tryz.ntmps3
 go_upto_region 1 with (fail)
 refine wp_region_lit ?_
 refine wpList_plain rfl fun Kq hKq => ?_
 go_simp
 refine hKq _ _ ?_
 clear hKq Kq
 refine wpList_plain rfl fun Kq hKq => ?_
 go_simp
 refine HCF.out.mono ?_
 rintro e V ⟨c, rfl, hc, ho, E1⟩
 refine hKq _ _ ?_
 clear hKq Kq HCF
 have hone := conf_one ho
 have HOWN := hide ho
 obtain ⟨g1, g2, -⟩ := good_conf hc
 have hpb := purse_of g2
 have HGC := hide (show GC V c from ⟨ho.ok, HM.out.ext E1, g2, g1⟩)
 have HE1 := hide E1
 have HONE := hide hone
 clear ho E1 hone hc
 refine wpList_box rfl 30 rfl rfl (.tmp 5) (.tmp 13) rfl (encC c) #[.slice none 0 0, .slice none 0 0, .slice none 0 0, .slice none 0 0, .int .i64 0, .int .i64 0, .int .i64 0, .int .i64 0, .int .i64 0, .int .i64 0, .int .i64 0, .int .i64 0, .int .i64 0, .int .i64 0, .int .i64 0, .int .i64 0, .int .i64 0, .int .i64 0, .int .i64 0, .int .i64 0] confAlloc rfl rfl rfl Tryz.confSize HONE.out ?_
 intro W2 hb5 E2
 obtain ⟨b5, hq5⟩ : ∃ b, V.heap.size = b := ⟨_, rfl⟩
 have hb5 : BoxC W2 b5 c := by rw [← hq5]; exact hb5
 rw [hq5]
 refine wpList_nil ?_
 simp only [Act.put]
 go_upto_region 2 with (fail)
 refine wp_region_lit ?_
 refine wpList_load_mid rfl 30 (.tmp 5) rfl b5 0 rfl (encC c) cd hb5.range hcd1 hcd2 Tryz.confSize ?_
 refine wpList_box rfl 30 rfl rfl (.tmp 6) (.tmp 14) rfl (encC c) #[.slice none 0 0, .slice none 0 0, .slice none 0 0, .slice none 0 0, .int .i64 0, .int .i64 0, .int .i64 0, .int .i64 0, .int .i64 0, .int .i64 0, .int .i64 0, .int .i64 0, .int .i64 0, .int .i64 0, .int .i64 0, .int .i64 0, .int .i64 0, .int .i64 0, .int .i64 0, .int .i64 0] confAlloc rfl rfl rfl Tryz.confSize HONE.out ?_
 intro W3 hb6 E3
 obtain ⟨b6, hq6⟩ : ∃ b, W2.heap.size = b := ⟨_, rfl⟩
 have hb6 : BoxC W3 b6 c := by rw [← hq6]; exact hb6
 have hb53 := hb5.ext E3
 have h56 : b5 ≠ b6 := by have := hb5.lt; omega
 rw [hq6]
 refine wpList_nil ?_
 simp only [Act.put]
 have c17 := hb53.cell 17 (.int .i64 c.purse) rfl
 have z17 := hb6.frozen 17
 have hw17 : IntKind.i64.wrap (c.purse + ar) = c.purse + ar := by rw [IntKind.wrap_i64]; omega
 have y17 := hb6.cell 17 (.int .i64 c.purse) rfl
 have hmin : (min (64 : Int) (c.purse + ar)) = min 64 (c.purse + ar) := rfl
 have HPB := hide hpb
 have HAB := hide hb1
 go_upto_region 3 with (fail)
 have hc : ∀ X, Ext W3.drew X → X.cell? ⟨b5, 17, none⟩ = some (.int .i64 c.purse) := fun X hX => (hX.cell (p := ⟨b5, 17, none⟩) hb53.lt).trans c17
 have hc2 : ∀ u, (W3.setCell ⟨b6, 17, none⟩ u).drew.cell? ⟨b5, 17, none⟩ = some (.int .i64 c.purse) := fun u => (World.cell?_setCell_other _ _ _ _ (fun e => h56 (by cases e; rfl))).trans c17
 have HC := hide hc
 have HC2 := hide hc2
 have HB53 := hide hb53
 have HB6 := hide hb6
 have HE3 := hide E3
 have HE2 := hide E2
 have H56 := hide h56
 clear hc hc2 hb5 hb6 hb53 E2 E3 h56 hpb hb1 g1 g2
 go_region_held3 (fun w' => w'.cell? ⟨b5, 17, none⟩ = some (.int .i64 c.purse))
  (first
   | exact HC.out _ (Below.refl _ _)
   | exact HC2.out _)
  (first
   | (go_at_call 5; refine (HA.out _).mono ?_; rintro e w8 ⟨rfl, rfl⟩))
 obtain ⟨pd, hpd⟩ : ∃ p, min 64 (c.purse + ar) = p := ⟨_, rfl⟩
 have hpd1 : c.purse ≤ pd ∧ 0 ≤ pd ∧ pd ≤ 64 := by have := HPB.out; have := HAB.out; omega
 rw [hpd]
 obtain ⟨d, hd⟩ : ∃ d : ConfD, ({ c with purse := pd } : ConfD) = d := ⟨_, rfl⟩
 have hx4 : Ext V (W3.setCell ⟨b6, 17, none⟩ (.int .i64 pd)).drew := ((HE2.out.trans HE3.out).setCell (p := ⟨b6, 17, none⟩) (by have := HE2.out.size; show V.heap.size ≤ b6; omega) _).drew
 have hb54 : BoxC (W3.setCell ⟨b6, 17, none⟩ (.int .i64 pd)).drew b5 c := HB53.out.keep (Below.heap_setCell W3 ⟨b6, 17, none⟩ (.int .i64 pd) b5 H56.out)
 have hb64 : BoxC (W3.setCell ⟨b6, 17, none⟩ (.int .i64 pd)).drew b6 d := HB6.out.set 17 (.int .i64 pd) (by subst hd; rfl)
 generalize (W3.setCell ⟨b6, 17, none⟩ (.int .i64 pd)).drew = W4 at hx4 hb54 hb64 ⊢
 have hdg : GC V d := ⟨(by subst hd; exact HGC.out.ok), HGC.out.mx, (by subst hd; exact more_right HGC.out.chk hpd1.2), (by subst hd; exact HGC.out.fit)⟩
 have hgr : ∀ id, factC c id ≤ factC d id := fun id => by subst hd; exact fact_grows HPB.out.1 hpd1.1 id
 have HDG := hide hdg
 have HGR := hide hgr
 have HBX5 := hide hb54
 have HBX6 := hide hb64
 have HX4 := hide hx4
 clear hdg hgr hd hpd hpd1 c17 z17 y17 hmin hw17 HC HC2 HB53 HB6 HE3 HE2 HA HPB HAB hx4
 go_upto_region 4 with (fail)
 refine wp_region_lit ?_
 refine wpList_load_mid rfl 30 (.tmp 5) rfl b5 0 rfl (encC c) cd hb54.range hcd1 hcd2 Tryz.confSize ?_
 refine wpList_box rfl 30 rfl rfl (.tmp 7) (.tmp 22) rfl (encC c) #[.slice none 0 0, .slice none 0 0, .slice none 0 0, .slice none 0 0, .int .i64 0, .int .i64 0, .int .i64 0, .int .i64 0, .int .i64 0, .int .i64 0, .int .i64 0, .int .i64 0, .int .i64 0, .int .i64 0, .int .i64 0, .int .i64 0, .int .i64 0, .int .i64 0, .int .i64 0, .int .i64 0] confAlloc rfl rfl rfl Tryz.confSize HONE.out ?_
 intro W5 hb7 E5
 obtain ⟨b7, hq7⟩ : ∃ b, W4.heap.size = b := ⟨_, rfl⟩
 have hb7 : BoxC W5 b7 c := by rw [← hq7]; exact hb7
 rw [hq7]
 refine wpList_nil ?_
 simp only [Act.put]
 have y17 := hb7.cell 17 (.int .i64 c.purse) rfl
 have z17 := hb7.frozen 17
 have h57 : b5 ≠ b7 := by have := hb54.lt; omega
 have h67 : b6 ≠ b7 := by have := hb64.lt; omega
 have hx6 : Ext V (W5.setCell ⟨b7, 17, none⟩ (.int .i64 0)) := (HX4.out.trans E5).setCell (p := ⟨b7, 17, none⟩) (by have := HX4.out.size; show V.heap.size ≤ b7; omega) _
 have hb56 : BoxC (W5.setCell ⟨b7, 17, none⟩ (.int .i64 0)) b5 c := (hb54.ext E5).keep (Below.heap_setCell W5 ⟨b7, 17, none⟩ (.int .i64 0) b5 h57)
 have hb66 : BoxC (W5.setCell ⟨b7, 17, none⟩ (.int .i64 0)) b6 d := (hb64.ext E5).keep (Below.heap_setCell W5 ⟨b7, 17, none⟩ (.int .i64 0) b6 h67)
 have hb76 : BoxC (W5.setCell ⟨b7, 17, none⟩ (.int .i64 0)) b7 { c with purse := 0 } := hb7.set 17 (.int .i64 0) rfl
 have HB56 := hide hb56
 have HB66 := hide hb66
 have HB76 := hide hb76
 have HX6 := hide hx6
 have H57 := hide h57
 have H67 := hide h67
 have HV7 := hide (show V.heap.size ≤ b7 by have := HX4.out.size; omega)
 clear hb56 hb66 hb76 hx6 HBX5 HBX6 HX4 hb54 hb64 E5 h57 h67
 go_upto_region 6 with (fail)
 generalize W5.setCell ⟨b7, 17, none⟩ (.int .i64 0) = W6 at HB56 HB66 HB76 HX6 ⊢
 clear y17 z17 hb7
 obtain ⟨sa, sc, hsv⟩ := owns_shape HOWN.out.s
 have hsl : c.S.length ≤ 10 := (chkC_ends HGC.out.chk).1
 have hc0 : ∀ X, Ext W6 X → X.cell? ⟨b5, 0, none⟩ = some (.slice sa c.S.length sc) := fun X hX => by
  have := (HB56.out.ext hX).cell 0 c.sv rfl
  rw [hsv] at this; exact this
 have HC0 := hide hc0
 have HSV := hide hsv
 have HSL := hide hsl
 clear hc0 hsv
 go_wp2_with fail
 go_loopw [8, 9] (fun v8 v9 wr => ∃ i : Nat, i ≤ c.S.length ∧ v9 = .int .i64 i ∧ Ext W6 wr ∧ wr.ownsRow W6.heap.size 35 7 v8 i (((c.S.take i).map SvcD.lone).flatMap encV)) (fun _ i _ => c.S.length - (intOf i).toNat)
 case atStart => exact ⟨0, Nat.zero_le _, rfl, Below.refl _ _, World.ownsRow_nil _ _ _ _⟩
 case round =>
  obtain ⟨i, hi, rfl, hext, hrow⟩ := hrel
  have HE := hide hext
  have HR := hide hrow
  have hz2 := HC0.out wr hext
  clear hext hrow
  by_cases hlt : i < c.S.length
  ·have hltz : (i : Int) < c.S.length := by omega
   obtain ⟨gs, sc2, hgs, -⟩ := owns_form HOWN.out.s (show 0 < c.S.length by omega)
   have hsa : sa = some ⟨gs, 0, none⟩ := by have := HSV.out.symm.trans hgs; injection this
   subst hsa
   have hrg : ∀ X, Ext W6 X → X.rangeAt gs (i * 7) (encV c.S[i]) := fun X hX => row_cell encV_len (by have := (HOWN.out.ext (HX6.out.trans hX)).s; rw [HSV.out] at this; exact this) i hlt
   have hon := svc_one HOWN.out (List.getElem_mem hlt)
   have HRG := hide hrg
   have HON := hide hon
   clear hrg hon hgs
   go_upto_region 10 with (fail)
   refine wp_region_lit ?_
   refine wpList_plain rfl fun K hK => ?_
   go_simp
   refine hK _ _ ?_
   clear hK K
   refine wpList_plain rfl fun K hK => ?_
   go_simp
   refine hK _ _ ?_
   clear hK K
   refine wpList_plain rfl fun K hK => ?_
   go_simp
   refine hK _ _ ?_
   clear hK K
   refine wpList_plain rfl fun K hK => ?_
   go_simp
   refine hK _ _ ?_
   clear hK K
   refine wpList_load_mid rfl 35 (.tmp 34) rfl gs (i * 7) (by rfl) (encV c.S[i]) dv (HRG.out wr HE.out) hdv1 hdv2 Tryz.svcSize ?_
   refine wpList_box rfl 35 rfl rfl (.tmp 10) (.tmp 35) rfl (encV c.S[i]) #[.int .i64 0, .slice none 0 0, .int .i64 0, .int .i64 0, .int .i64 0, .int .i64 0, .int .i64 0] svcAlloc rfl rfl rfl Tryz.svcSize HON.out ?_
   intro X1 hb10 F1
   obtain ⟨b10, hq10⟩ : ∃ b, wr.heap.size = b := ⟨_, rfl⟩
   have hb10 : X1.heap[b10]? = some (.cells (encV c.S[i]).toArray 35 (0, 0)) := by rw [← hq10]; exact hb10
   rw [hq10]
   refine wpList_nil ?_
   simp only [Act.put]
   have hxw := HX6.out
   have y1 : X1.cell? ⟨b10, 1, none⟩ = some c.S[i].kv := ArrB.cell hb10 1 _ rfl
   have z1 := ArrB.frozen hb10 1
   have hbl : (X1.setCell ⟨b10, 1, none⟩ (.slice none 0 0)).heap[b10]? = some (.cells (encV c.S[i].lone).toArray 35 (0, 0)) := ArrB.set hb10 1 (.slice none 0 0)
   have hx2 : Ext wr (X1.setCell ⟨b10, 1, none⟩ (.slice none 0 0)) := F1.setCell (p := ⟨b10, 1, none⟩) (by show wr.heap.size ≤ b10; omega) _
   have HBL := hide hbl
   have HX2 := hide hx2
   clear hbl hx2 F1
   go_upto_region 12 with (fail)
   generalize X1.setCell ⟨b10, 1, none⟩ (.slice none 0 0) = X2 at HBL HX2 ⊢
   clear y1 z1 hb10
   obtain ⟨a8, y8, rfl⟩ := owns_shape HR.out
   have hrl : X2.rangeAt b10 0 (encV c.S[i].lone) := fun j u hu => by rw [Nat.zero_add]; exact ArrB.cell HBL.out j u (by simpa using hu)
   have hlo : ∀ u ∈ encV c.S[i].lone, u.oneCell' = true := encV_one ⟨_, _, _, rfl⟩
   have htk : ((c.S.take (i + 1)).map SvcD.lone).flatMap encV = ((c.S.take i).map SvcD.lone).flatMap encV ++ [c.S[i].lone].flatMap encV := by
    rw [List.take_succ_eq_append_getElem hlt, List.map_append, List.flatMap_append]; rfl
   generalize c.S[i].lone = sl at HBL hrl hlo htk
   have HTK := hide htk
   have HLO := hide hlo
   clear htk hlo
   refine wp_region_lit ?_
   refine wpList_plain rfl fun K hK => ?_
   go_simp
   refine hK _ _ ?_
   clear hK K
   refine wpList_load_mid rfl 35 (.tmp 10) rfl b10 0 (by rfl) (encV sl) dv hrl hdv1 hdv2 Tryz.svcSize ?_
   refine wpList_plain rfl fun K hK => ?_
   go_simp
   refine hK _ _ ?_
   clear hK K
   have hxa : Ext X2 (X2.alloc (.cells (encV sl).toArray 35)) := (Below.refl _ _).alloc (Nat.le_refl _) _
   have hwl : W6.heap.size ≤ X2.heap.size := Nat.le_trans HE.out.size HX2.out.size
   refine wpList_append_sl (enc := encV) rfl _ _ _ rfl W6.heap.size 35 iv zv 7 72 Tryz.underlying23 hiv0 hiv1 hiv2 hiv3 hiv4 (by decide) encV_len (.slice a8 i y8) i (((c.S.take i).map SvcD.lone).flatMap encV) rfl (owns_ext HR.out (HX2.out.trans hxa)) _ rfl [sl] (sl_new1 encV_len X2 sl 35 _ ?_) (fun x hx => by rw [List.mem_singleton.1 hx]; exact HLO.out) (by have := HSL.out; unfold maxLen; simp; omega) (by have := HSL.out; simp; omega) (Nat.le_trans hwl hxa.size) ?_
   ·rfl
   intro v7 w7 hown7 hg7
   have hown7 : w7.ownsRow W6.heap.size 35 7 v7 (i + 1) (((c.S.take i).map SvcD.lone).flatMap encV ++ [sl].flatMap encV) := hown7
   rw [← HTK.out] at hown7
   have hx7 : Ext W6 w7 := Keeps.ext (HE.out.trans (HX2.out.trans hxa)) (Keeps.of_grown hg7 (X := fun q => (Value.slice a8 i y8).ownBlock = some q) (fun q h => h)) (fun q hq => (HR.out.lt q hq).1)
   refine wpList_plain rfl fun K hK => ?_
   go_simp
   refine hK _ _ ?_
   clear hK K
   refine wpList_nil ?_
   go_upto_region 16 with (fail)
   go_roundw
   case rel => exact ⟨i + 1, hlt, by go_num, hx7, hown7⟩
   case measure => simp [intOf] <;> omega
  ·obtain rfl : i = c.S.length := by omega
   have hltz : ¬ (c.S.length : Int) < c.S.length := by omega
   rw [List.take_length] at HR
   obtain ⟨a8, y8, rfl⟩ := owns_shape HR.out
   have hbe : BoxC wr b7 { c with purse := 0 } := HB76.out.ext HE.out
   have c70 := hbe.cell 0 c.sv rfl
   have z70 := hbe.frozen 0
   go_upto_region 14 with (fail)
   have hb7w : b7 < W6.heap.size := HB76.out.lt
   have hx7 : Ext V (wr.setCell ⟨b7, 0, none⟩ (.slice a8 c.S.length y8)) := (HX6.out.trans HE.out).setCell (p := ⟨b7, 0, none⟩) HV7.out _
   have hs7 := ownsRow_setCell_below (a := ⟨b7, 0, none⟩) HR.out hb7w (.slice a8 c.S.length y8)
   have hb57 : BoxC (wr.setCell ⟨b7, 0, none⟩ (.slice a8 c.S.length y8)) b5 c := (HB56.out.ext HE.out).keep (Below.heap_setCell wr ⟨b7, 0, none⟩ (.slice a8 c.S.length y8) b5 H57.out)
   have hb67 : BoxC (wr.setCell ⟨b7, 0, none⟩ (.slice a8 c.S.length y8)) b6 d := (HB66.out.ext HE.out).keep (Below.heap_setCell wr ⟨b7, 0, none⟩ (.slice a8 c.S.length y8) b6 H67.out)
   have hb77 : BoxC (wr.setCell ⟨b7, 0, none⟩ (.slice a8 c.S.length y8)) b7 (flatC c (.slice a8 c.S.length y8)) := hbe.set 0 (.slice a8 c.S.length y8) rfl
   generalize wr.setCell ⟨b7, 0, none⟩ (.slice a8 c.S.length y8) = W7 at hx7 hs7 hb57 hb67 hb77 ⊢
   have hsv : Svcs W7 (.slice a8 c.S.length y8) (c.S.map SvcD.lone) := Sl.of_own' encV_len (by simpa using hs7)
   have hgg : GC W7 (flatC c (.slice a8 c.S.length y8)) := ⟨flat_ok (HGC.out.ok.ext hx7) hsv, HGC.out.mx.ext hx7, flat_right _ HGC.out.chk, flat_fit _ HGC.out.fit⟩
   have hfg := fun id => fact_flat c (.slice a8 c.S.length y8) id
   obtain ⟨g, hg⟩ : ∃ g, flatC c (.slice a8 c.S.length y8) = g := ⟨_, rfl⟩
   rw [hg] at hb77 hgg
   simp only [hg] at hfg
   have HB5 := hide (fun X (hX : Ext W7 X) => hb57.ext hX)
   have HB6 := hide (fun X (hX : Ext W7 X) => hb67.ext hX)
   have HB7 := hide (fun X (hX : Ext W7 X) => hb77.ext hX)
   have HFG0 := hide (fun j X (hj : I64 j) (hX : Ext W7 X) => factor_any g j X (hgg.ext hX) hj)
   have HFD0 := hide (fun j X (hj : I64 j) (hX : Ext W7 X) => factor_any d j X ((HDG.out.ext hx7).ext hX) hj)
   have HFC0 := hide (fun j X (hj : I64 j) (hX : Ext W7 X) => factor_any c j X ((HGC.out.ext hx7).ext hX) hj)
   have HLE := hide hfg
   have HX7 := hide (HE1.out.trans hx7)
   clear hsv hgg hfg hg hb57 hb67 hb77 hx7 hs7 hb7w c70 z70 hbe hltz HR HE HB56 HB66 HB76 HX6 H57 H67 HV7 hz2 HC0 HSV HSL HOWN HGC HDG HONE HM HE1
   go_wp2_with fail
   go_loopw [11] (fun v11 wr => ∃ j : Nat, 1 ≤ j ∧ j ≤ 5 ∧ v11 = .int .i64 j ∧ Ext W7 wr) (fun j _ => 5 - (intOf j).toNat)
   case atStart => exact ⟨1, Nat.le_refl _, by omega, rfl, Below.refl _ _⟩
   case round =>
    obtain ⟨j, hj1, hj5, rfl, hext⟩ := hrel
    have HE := hide hext
    clear hext
    by_cases hlt : j < 5
    ·have hltz : (j : Int) ≤ 4 := by omega
     have hwi : IntKind.i64.wrap ((j : Int) + 1) = ((j + 1 : Nat) : Int) := by rw [IntKind.wrap_i64]; omega
     have hjj : I64 (j : Int) := by unfold I64; omega
     have hfd := fun X (hX : Ext W7 X) => HFD0.out j X hjj hX
     have hfc := fun X (hX : Ext W7 X) => HFC0.out j X hjj hX
     have hfg := fun X (hX : Ext W7 X) => HFG0.out j X hjj hX
     have h1 := HGR.out j
     have h2 := HLE.out j
     generalize factC d j = fd at hfd h1
     generalize factC c j = fc at hfc h1
     generalize factC g j = fg at hfg h2
     have HLS := hide (show decide (fd < fc) = false from decide_eq_false (by omega))
     have HGT := hide (show decide (2 < fg) = false from decide_eq_false (by omega))
     have HFD := hide hfd
     have HFC := hide hfc
     have HFG := hide hfg
     clear hfd hfc hfg h1 h2
     go_upto_region 17 with (fail)
     refine wp_region_ro 61 [47, 48, 49, 50, 51, 52, 53, 54, 55, 56, 57, 58, 59] (fun w' => Ext wr w') (fun (t : Nat) (wI : World) (v : Value) => match t with | 47 => v = (.agg (encC d).toArray) | 48 => v = (.int .i64 (j : Int)) | 49 => v = (.int .i64 fd) | 50 => v = (.agg (encC c).toArray) | 51 => v = (.int .i64 (j : Int)) | 52 => v = (.int .i64 fc) | 53 => v = (.bool false) | 54 => v = (.bool false) | 55 => v = (.agg (encC g).toArray) | 56 => v = (.int .i64 (j : Int)) | 57 => v = (.int .i64 fg) | 58 => v = (.bool false) | 59 => v = (.bool false) | _ => True) (by kernel_rfl) rfl (by kernel_rfl) (by kernel_rfl) (by kernel_rfl) ?_ ?_ ?_ ?_ ?_
     ·intro t w' w'' v hR hv
      exact hv
     ·intro w' w'' h e
      exact Ext.trans (show Ext _ w' from h) e
     ·exact (Below.refl _ _).drew
     ·intro i o ho X w' hph hI hF K hK
      have hin : i < 13 := (Array.getElem?_eq_some_iff.1 ho).1
      have hi : i = 0 ∨ i = 1 ∨ i = 2 ∨ i = 3 ∨ i = 4 ∨ i = 5 ∨ i = 6 ∨ i = 7 ∨ i = 8 ∨ i = 9 ∨ i = 10 ∨ i = 11 ∨ i = 12 := by omega
      rcases hi with rfl | rfl | rfl | rfl | rfl | rfl | rfl | rfl | rfl | rfl | rfl | rfl | rfl
      ·obtain rfl := Option.some.inj ho
       have e6 : X 6 = (.pointer (some ⟨b6, 0, none⟩)) := hF 6 (by kernel_rfl)
       have hx : Ext W7 w' := HE.out.trans hph
       unfold wpOp
       simp only [ho]
       rw [if_pos (by rfl)]
       left
       rw [frame61]
       refine wp_load_mid 30 (.tmp 6) rfl b6 0 e6 (encC d) cd (HB6.out w' hx).range hcd1 hcd2 Tryz.confSize (metK (hK.out (.agg (encC d).toArray) _ (Below.refl _ _) (fun d hd => by cases hd; exact rfl)) ?_)
       simp [frame61, Act.put, *]
      ·obtain rfl := Option.some.inj ho
       have e11 : X 11 = (.int .i64 (j : Int)) := hF 11 (by kernel_rfl)
       unfold wpOp
       simp only [ho]
       rw [if_pos (by rfl)]
       left
       rw [frame61]
       go_simp
       refine metK (hK.out ((.int .i64 (j : Int))) _ (Below.refl _ _) (fun d hd => by cases hd; exact rfl)) ?_
       simp [frame61, Act.put, *]
      ·obtain rfl := Option.some.inj ho
       have e47 : X 47 = _ := hI 47 (by kernel_rfl)
       have e48 : X 48 = _ := hI 48 (by kernel_rfl)
       have hx : Ext W7 w' := HE.out.trans hph
       unfold wpOp
       simp only [ho]
       rw [if_pos (by rfl)]
       left
       rw [frame61]
       go_simp
       refine (HFD.out w' hx).mono ?_
       rintro e w9 ⟨rfl, E9⟩
       refine metK (hK.out (.int .i64 fd) w9 E9 (fun d hd => by cases hd; exact rfl)) ?_
       simp [frame61, Act.put, *]
      ·obtain rfl := Option.some.inj ho
       have e5 : X 5 = (.pointer (some ⟨b5, 0, none⟩)) := hF 5 (by kernel_rfl)
       have hx : Ext W7 w' := HE.out.trans hph
       unfold wpOp
       simp only [ho]
       rw [if_pos (by rfl)]
       left
       rw [frame61]
       refine wp_load_mid 30 (.tmp 5) rfl b5 0 e5 (encC c) cd (HB5.out w' hx).range hcd1 hcd2 Tryz.confSize (metK (hK.out (.agg (encC c).toArray) _ (Below.refl _ _) (fun d hd => by cases hd; exact rfl)) ?_)
       simp [frame61, Act.put, *]
      ·obtain rfl := Option.some.inj ho
       have e11 : X 11 = (.int .i64 (j : Int)) := hF 11 (by kernel_rfl)
       unfold wpOp
       simp only [ho]
       rw [if_pos (by rfl)]
       left
       rw [frame61]
       go_simp
       refine metK (hK.out ((.int .i64 (j : Int))) _ (Below.refl _ _) (fun d hd => by cases hd; exact rfl)) ?_
       simp [frame61, Act.put, *]
      ·obtain rfl := Option.some.inj ho
       have e50 : X 50 = _ := hI 50 (by kernel_rfl)
       have e51 : X 51 = _ := hI 51 (by kernel_rfl)
       have hx : Ext W7 w' := HE.out.trans hph
       unfold wpOp
       simp only [ho]
       rw [if_pos (by rfl)]
       left
       rw [frame61]
       go_simp
       refine (HFC.out w' hx).mono ?_
       rintro e w9 ⟨rfl, E9⟩
       refine metK (hK.out (.int .i64 fc) w9 E9 (fun d hd => by cases hd; exact rfl)) ?_
       simp [frame61, Act.put, *]
      ·obtain rfl := Option.some.inj ho
       have e49 : X 49 = _ := hI 49 (by kernel_rfl)
       have e52 : X 52 = _ := hI 52 (by kernel_rfl)
       have q1 := HLS.out
       unfold wpOp
       simp only [ho]
       rw [if_pos (by rfl)]
       left
       rw [frame61]
       go_simp
       refine metK (hK.out ((.bool false)) _ (Below.refl _ _) (fun d hd => by cases hd; exact rfl)) ?_
       simp [frame61, Act.put, *]
      ·obtain rfl := Option.some.inj ho
       have e53 : X 53 = _ := hI 53 (by kernel_rfl)
       unfold wpOp
       simp only [ho]
       rw [if_pos (by rfl)]
       left
       rw [frame61]
       go_simp
       refine metK (hK.out ((.bool false)) _ (Below.refl _ _) (fun d hd => by cases hd; exact rfl)) ?_
       simp [frame61, Act.put, *]
      ·obtain rfl := Option.some.inj ho
       have e7 : X 7 = (.pointer (some ⟨b7, 0, none⟩)) := hF 7 (by kernel_rfl)
       have e54 : X 54 = _ := hI 54 (by kernel_rfl)
       have hx : Ext W7 w' := HE.out.trans hph
       unfold wpOp
       simp only [ho]
       rw [frame61]
       simp only [e54]
       rw [if_pos (by rfl)]
       left
       refine wp_load_mid 30 (.tmp 7) rfl b7 0 e7 (encC g) cd (HB7.out w' hx).range hcd1 hcd2 Tryz.confSize (metK (hK.out (.agg (encC g).toArray) _ (Below.refl _ _) (fun d hd => by cases hd; exact rfl)) ?_)
       simp [frame61, Act.put, *]
      ·obtain rfl := Option.some.inj ho
       have e11 : X 11 = (.int .i64 (j : Int)) := hF 11 (by kernel_rfl)
       have e54 : X 54 = _ := hI 54 (by kernel_rfl)
       unfold wpOp
       simp only [ho]
       rw [frame61]
       simp only [e54]
       rw [if_pos (by rfl)]
       left
       go_simp
       refine metK (hK.out ((.int .i64 (j : Int))) _ (Below.refl _ _) (fun d hd => by cases hd; exact rfl)) ?_
       simp [frame61, Act.put, *]
      ·obtain rfl := Option.some.inj ho
       have e54 : X 54 = _ := hI 54 (by kernel_rfl)
       have e55 : X 55 = _ := hI 55 (by kernel_rfl)
       have e56 : X 56 = _ := hI 56 (by kernel_rfl)
       have hx : Ext W7 w' := HE.out.trans hph
       unfold wpOp
       simp only [ho]
       rw [frame61]
       simp only [e54]
       rw [if_pos (by rfl)]
       left
       go_simp
       refine (HFG.out w' hx).mono ?_
       rintro e w9 ⟨rfl, E9⟩
       refine metK (hK.out (.int .i64 fg) w9 E9 (fun d hd => by cases hd; exact rfl)) ?_
       simp [frame61, Act.put, *]
      ·obtain rfl := Option.some.inj ho
       have e54 : X 54 = _ := hI 54 (by kernel_rfl)
       have e57 : X 57 = _ := hI 57 (by kernel_rfl)
       have q1 := HGT.out
       unfold wpOp
       simp only [ho]
       rw [frame61]
       simp only [e54]
       rw [if_pos (by rfl)]
       left
       go_simp
       refine metK (hK.out ((.bool false)) _ (Below.refl _ _) (fun d hd => by cases hd; exact rfl)) ?_
       simp [frame61, Act.put, *]
      ·obtain rfl := Option.some.inj ho
       have e54 : X 54 = _ := hI 54 (by kernel_rfl)
       have e58 : X 58 = _ := hI 58 (by kernel_rfl)
       unfold wpOp
       simp only [ho]
       rw [if_pos (by rfl)]
       left
       rw [frame61]
       go_simp
       refine metK (hK.out ((.bool false)) _ (Below.refl _ _) (fun d hd => by cases hd; exact rfl)) ?_
       simp [frame61, Act.put, *]
     ·intro X w' hph hI
      have e47 : X 47 = _ := hI 47 (by kernel_rfl)
      have e48 : X 48 = _ := hI 48 (by kernel_rfl)
      have e49 : X 49 = _ := hI 49 (by kernel_rfl)
      have e50 : X 50 = _ := hI 50 (by kernel_rfl)
      have e51 : X 51 = _ := hI 51 (by kernel_rfl)
      have e52 : X 52 = _ := hI 52 (by kernel_rfl)
      have e53 : X 53 = _ := hI 53 (by kernel_rfl)
      have e54 : X 54 = _ := hI 54 (by kernel_rfl)
      have e55 : X 55 = _ := hI 55 (by kernel_rfl)
      have e56 : X 56 = _ := hI 56 (by kernel_rfl)
      have e57 : X 57 = _ := hI 57 (by kernel_rfl)
      have e58 : X 58 = _ := hI 58 (by kernel_rfl)
      have e59 : X 59 = _ := hI 59 (by kernel_rfl)
      clear hI
      simp only [overF, List.foldl_cons, List.foldl_nil, List.setIfInBounds_toArray, List.set_cons_succ, List.set_cons_zero, e47, e48, e49, e50, e51, e52, e53, e54, e55, e56, e57, e58, e59]
      have hx9 : Ext wr w' := hph
      clear hph e47 e48 e49 e50 e51 e52 e53 e54 e55 e56 e57 e58 e59
      have HE9 := hide (HE.out.trans hx9)
      clear hx9
      generalize w' = W9 at *
      go_wp2
      go_roundw
      case rel => exact ⟨j + 1, by omega, by omega, by go_num, HE9.out⟩
      case measure => simp [intOf] <;> omega
    ·obtain rfl : j = 5 := by omega
     have hltz : ¬ ((5 : Nat) : Int) ≤ 4 := by omega
     go_wp2_with fail
     refine (HAL.out wr).mono ?_
     rintro e w9 ⟨rfl, E9⟩
     have HZ := hide (HX7.out.trans (HE.out.trans E9))
     go_wp2
     go_ret
     exact ⟨rfl, HZ.out⟩
end Go.Proofs.YtmpciohmljpncaaGreatDoor
