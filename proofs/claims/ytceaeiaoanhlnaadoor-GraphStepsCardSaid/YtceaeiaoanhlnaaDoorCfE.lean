import Derived.Deep.AppendLies
import Derived.Test.YtceaeiaoanhlnaaDoorCfF
namespace Go.Proofs.YtceaeiaoanhlnaaDoor
open Go.ChangeShapes Go.WideShapes Go.ChangeAt Go.RowKit Go.Lib Go.Shelf
/-- a service that is being made: its numbers, its kids' row -/
def SvcBox (w : World) (b m k : Nat) (kv : Value) : Prop := w.heap[b]? = some (.cells #[.int .i64 ((m : Int) + 1), kv, .int .i64 (1 + (k : Int) % 6), .int .i64 (1 + (k : Int) / 6 % 3), .int .i64 (1 + (k : Int) / 18 % 6), .int .i64 (1 + (k : Int) / 108 % 3), .int .i64 ((k : Int) / 324 % 4)] 70 (0, 0))
theorem SvcBox.grown {w w1 w6 : World} {b m k base n : Nat} {kv : Value} {xs : List Value} (h : SvcBox w b m k kv) (e : Ext w w1) (ho : w.ownsRow base 9 1 kv n xs) (hg : w1.grownBy w6 kv.ownBlock) : SvcBox w6 b m k kv := by
 have hne : ¬ kv.ownBlock = some b := fun hk => absurd (owns_type ho hk h) (by decide)
 have hl := (Array.getElem?_eq_some_iff.1 h).1
 exact ((Keeps.of_grown (X := fun q => kv.ownBlock = some q) hg (fun _ h => h)).block b (Nat.lt_of_lt_of_le hl e.size) hne).trans ((e.block b hl).trans h)
set_option maxRecDepth 100000 in
set_option maxHeartbeats 16000000 in
theorem conf_tail4 (L : List Int) (a : Option Addr) (c : Nat) (w W : World) (b5 : Nat) (x : Nat → Value) (e0 : x 0 = .slice a L.length c) (e2 : x 2 = .pointer (some ⟨w.heap.size, 0, none⟩)) (e4 : x 4 = .int .i64 (svcsM L : Nat)) (e5 : x 5 = .pointer (some ⟨b5, 0, none⟩)) (hcs : CS w W w.heap.size b5 (conf0 L)) (hs : Ints w (.slice a L.length c) L) (hL : ∀ x ∈ L, I64 x) :
  Code.wp Tryd.prog (confTail 4) (bodyPost Tryd.prog Tryd.f35 (ConfP L w)) ⟨frameOf 236 x, []⟩ W := by
 conv => arg 2; whnf
 rw [frame236]
 simp only [e0, e2, e4, e5]
 clear e0 e2 e4 e5
 have hm := svcsM_bd L
 obtain ⟨M, hM⟩ : ∃ M, svcsM L = M := ⟨_, rfl⟩
 have HP1 := hide (fun X (hX : Ext w X) => (pick_any L 1 (.slice a L.length c) X (hs.ext hX) hL : Calls Tryd.prog 56 #[.slice a L.length c, .int .i64 1] X _))
 have HPK := hide (fun k X (hX : Ext w X) => pick_any L k (.slice a L.length c) X (hs.ext hX) hL)
 have HS := hide hs
 have HL := hide hL
 have HCS := hide hcs
 have p1 := pk_lt L 1
 obtain ⟨N1, hN1⟩ : ∃ N, pk L 1 = N := ⟨_, rfl⟩
 rw [hN1] at HP1 p1
 have HN1 := hide hN1
 have HM := hide hM
 rw [hM] at hm ⊢
 obtain ⟨hm1, hm4⟩ := hm
 have p1z : (N1 : Int) < 1000000 := by omega
 obtain ⟨lf, hlf⟩ : ∃ lf, (conf0 L).life = lf := ⟨_, rfl⟩
 have hlb : 60 ≤ lf ∧ lf ≤ 260 := by
  rw [← hlf]
  show 60 ≤ 60 + (pk L 0 : Int) / 3456 % 200 ∧ 60 + (pk L 0 : Int) / 3456 % 200 ≤ 260
  omega
 obtain ⟨hlb1, hlb2⟩ := hlb
 have c16 : W.cell? ⟨b5, 16, none⟩ = some (.int .i64 lf) := hcs.box.cell 16 _ (by rw [← hlf]; rfl)
 have c18 : W.cell? ⟨b5, 18, none⟩ = some (.int .i64 0) := hcs.box.cell 18 _ rfl
 have z18 := hcs.box.frozen 18
 have HLF := hide hlf
 clear hcs hN1 hM hs hL hlf
 have td1 : (N1 : Int).tdiv 28 = (N1 : Int) / 28 := Int.tdiv_eq_ediv_of_nonneg (by omega)
 have td2 : ((N1 : Int) / 28).tmod 300 = (N1 : Int) / 28 % 300 := Int.tmod_eq_emod_of_nonneg (by omega)
 have tw1 : IntKind.i64.wrap ((N1 : Int) / 28) = (N1 : Int) / 28 := IntWalk.i64_in _ (by omega)
 have tw2 : IntKind.i64.wrap ((N1 : Int) / 28 % 300) = (N1 : Int) / 28 % 300 := IntWalk.i64_in _ (by omega)
 have tw3 : IntKind.i64.wrap (lf + (N1 : Int) / 28 % 300) = lf + (N1 : Int) / 28 % 300 := IntWalk.i64_in _ (by omega)
 go_upto_region 4 with (fail)
 have hc : ∀ X, Ext W.drew X → X.cell? ⟨b5, 16, none⟩ = some (.int .i64 lf) := fun X hX => (hX.cell (p := ⟨b5, 16, none⟩) HCS.out.box.lt).trans c16
 have hc2 : ∀ v, (W.setCell ⟨b5, 18, none⟩ v).drew.cell? ⟨b5, 16, none⟩ = some (.int .i64 lf) := fun v => by
  have hs := ArrB.set HCS.out.box 18 v
  exact ArrB.cell (w := (W.setCell ⟨b5, 18, none⟩ v).drew) hs 16 _ (by rw [← HLF.out]; rfl)
 have HC := hide hc
 have HC2 := hide hc2
 clear hc hc2
 go_region_held3 (fun w' => w'.cell? ⟨b5, 16, none⟩ = some (.int .i64 lf))
  (first
   | exact HC.out _ (Below.refl _ _)
   | exact HC2.out _)
  (first
   | (go_at_call 56; refine (HP1.out _ (HCS.out.ext.trans (Below.refl _ _).drew)).mono ?_; rintro e w8 ⟨rfl, rfl⟩))
 have hcs1 : CS w (W.setCell ⟨b5, 18, none⟩ (.int .i64 (lf + (N1 : Int) / 28 % 300))).drew w.heap.size b5 (confA L 0) :=
  (HCS.out.set 18 (.int .i64 (lf + (N1 : Int) / 28 % 300)) (confA L 0) (by rw [← HLF.out, ← HN1.out]; rfl) ⟨HCS.out.own.s, HCS.out.own.k, HCS.out.own.e, HCS.out.own.r, HCS.out.own.rr, HCS.out.own.t⟩).keep ((Below.refl _ _).drew)
 generalize (W.setCell ⟨b5, 18, none⟩ (.int .i64 (lf + (N1 : Int) / 28 % 300))).drew = W1 at hcs1 ⊢
 have HCS1 := hide hcs1
 clear hcs1 c16 c18 z18 HC HC2 HCS HLF HN1 HP1 td1 td2 tw1 tw2 tw3
 go_upto_block 0 with fail
 go_cut [6, 7, 8, 9] from 61 to 131 (fun _ _ _ _ w' => ∃ c', c'.cor2 = confA L M ∧ CS w w' w.heap.size b5 c')
 case first =>
  go_wp2_with fail
  go_loopw [6] (fun v6 wr => ∃ (m : Nat) (cc : ConfD), v6 = .int .i64 ((m : Int) + 1) ∧ m ≤ M ∧ Hid (cc.cor2 = confA L m) ∧ Hid (CS w wr w.heap.size b5 cc)) (fun i _ => (M + 1 : Nat) - (intOf i).toNat)
  case atStart => exact ⟨0, confA L 0, rfl, by omega, rfl, HCS1.out⟩
  case round =>
   obtain ⟨m, cc, rfl, hmM, hcore, hcs⟩ := hrel
   have HCR := hide hcore.out
   have HCC := hide hcs.out
   clear hcore hcs
   generalize wr = wo at *
   by_cases hlt : m < M
   ·have hle : ((m : Int) + 1) ≤ M := by omega
    have hpk := HPK.out (1 + (m + 1)) wo HCC.out.ext
    have hcast : ((1 + (m + 1) : Nat) : Int) = 1 + ((m : Int) + 1) := by omega
    rw [hcast] at hpk
    have hkb := pk_lt L (1 + (m + 1))
    obtain ⟨k, hk⟩ : ∃ k, pk L (1 + (m + 1)) = k := ⟨_, rfl⟩
    rw [hk] at hpk hkb
    have HPM := hide hpk
    have HKE := hide hk
    have hkz : (k : Int) < 1000000 := by omega
    clear hpk hcast hk
    go_wp2_with fail
    refine HPM.out.mono ?_
    rintro e w8 ⟨rfl, rfl⟩
    clear HPM
    go_upto_block 2 with fail
    have hb8 := heap_alloc_new wo (.cells #[.int .i64 ((m : Int) + 1), .slice none 0 0, .int .i64 (1 + (k : Int) % 6), .int .i64 (1 + (k : Int) / 6 % 3), .int .i64 (1 + (k : Int) / 18 % 6), .int .i64 (1 + (k : Int) / 108 % 3), .int .i64 ((k : Int) / 324 % 4)] 70)
    have hE8 : Ext wo (wo.alloc (.cells #[.int .i64 ((m : Int) + 1), .slice none 0 0, .int .i64 (1 + (k : Int) % 6), .int .i64 (1 + (k : Int) / 6 % 3), .int .i64 (1 + (k : Int) / 18 % 6), .int .i64 (1 + (k : Int) / 108 % 3), .int .i64 ((k : Int) / 324 % 4)] 70)) := (Below.refl _ _).alloc (Nat.le_refl _) _
    generalize wo.alloc (.cells #[.int .i64 ((m : Int) + 1), .slice none 0 0, .int .i64 (1 + (k : Int) % 6), .int .i64 (1 + (k : Int) / 6 % 3), .int .i64 (1 + (k : Int) / 18 % 6), .int .i64 (1 + (k : Int) / 108 % 3), .int .i64 ((k : Int) / 324 % 4)] 70) = W8 at hb8 hE8 ⊢
    have HB8 := hide hb8
    have HE8 := hide hE8
    clear hb8 hE8
    go_cut [9] from 90 to 112 (fun _ w' => ∃ kv, Hid (SvcBox w' wo.heap.size m k kv) ∧ Hid (w'.ownsRow wo.heap.size 9 1 kv (kidsN k (m + 1) (k / 1296 % 3)).length ((kidsN k (m + 1) (k / 1296 % 3)).flatMap encS)) ∧ Ext wo w')
    case first =>
     go_wp2_with fail
     go_loopw [9] (fun v9 wq => ∃ (j : Nat) (kv : Value), v9 = .int .i64 j ∧ j ≤ k / 1296 % 3 ∧ Hid (SvcBox wq wo.heap.size m k kv) ∧ Hid (wq.ownsRow wo.heap.size 9 1 kv (kidsN k (m + 1) j).length ((kidsN k (m + 1) j).flatMap encS)) ∧ Ext wo wq) (fun j _ => 3 - (intOf j).toNat)
     case atStart => exact ⟨0, .slice none 0 0, rfl, by omega, HB8.out, World.ownsRow_nil _ _ _ _, HE8.out⟩
     case round =>
      obtain ⟨j, kv, rfl, hj, hbx, hkv, hext⟩ := hrel
      have HBX := hide hbx.out
      have HKV := hide hkv.out
      have HX := hide hext
      clear hbx hkv hext
      by_cases hjl : j < k / 1296 % 3
      ·have hjz : (j : Int) < (k : Int) / 1296 % 3 := by omega
       have hjs : j < 3 := by omega
       obtain ⟨dn, hdn⟩ : ∃ d, (k / 3888 + j + (m + 1)) % 4 = d := ⟨_, rfl⟩
       have hdn4 : dn < 4 := by omega
       have hsc := kidsN_succ k (m + 1) j
       rw [hdn] at hsc
       have hKl : (kidsN k (m + 1) j).length = j := by simp [kidsN]
       obtain ⟨q, hq⟩ : ∃ q, k / 3888 = q := ⟨_, rfl⟩
       have hq3 : q < 300 := by omega
       have s1 : (k : Int).tdiv 3888 = (q : Int) := by rw [Int.tdiv_eq_ediv_of_nonneg (by omega)]; omega
       have s2 : IntKind.i64.wrap (q : Int) = (q : Int) := IntWalk.i64_in _ (by omega)
       have s3 : IntKind.i64.wrap ((q : Int) + (j : Int)) = (q : Int) + (j : Int) := IntWalk.i64_in _ (by omega)
       have s4 : IntKind.i64.wrap ((q : Int) + (j : Int) + ((m : Int) + 1)) = (q : Int) + (j : Int) + ((m : Int) + 1) := IntWalk.i64_in _ (by omega)
       have s5 : ((q : Int) + (j : Int) + ((m : Int) + 1)).tmod 4 = (dn : Int) := by rw [Int.tmod_eq_emod_of_nonneg (by omega)]; omega
       have s6 : IntKind.i64.wrap (dn : Int) = (dn : Int) := IntWalk.i64_in _ (by omega)
       have hdnz : (dn : Int) < 4 := by omega
       obtain ⟨kd, hkd⟩ : ∃ kd, kidP dn = kd := ⟨_, rfl⟩
       have hArr : (wr.alloc (.cells #[.string ⟨#[47, 97]⟩, .string ⟨#[47, 98]⟩, .string ⟨#[47, 99, 47, 97]⟩, .string ⟨#[47, 97, 98]⟩] 9)).cell? ⟨wr.heap.size, dn, none⟩ = some (.string kd) := by
        rw [World.cell?, heap_alloc_new, ← hkd]
        rcases (by omega : dn = 0 ∨ dn = 1 ∨ dn = 2 ∨ dn = 3) with rfl | rfl | rfl | rfl <;> rfl
       rw [hkd] at hsc
       obtain ⟨KJ, hKJ⟩ : ∃ KJ, kidsN k (m + 1) j = KJ := ⟨_, rfl⟩
       rw [hKJ] at hsc HKV hKl
       obtain ⟨x9, y9, rfl⟩ := owns_shape HKV.out
       have HSC := hide hsc
       have HKL := hide hKl
       have c1 : wr.cell? ⟨wo.heap.size, 1, none⟩ = some (.slice x9 KJ.length y9) := ArrB.cell HBX.out 1 _ rfl
       have z1 := ArrB.frozen HBX.out 1
       have hlb := (Array.getElem?_eq_some_iff.1 HBX.out).1
       obtain ⟨is, his0, his1, his2, his3⟩ := info_partsS Tryd.infoS
       have hkl3 : KJ.length < 3 := by omega
       have hxo := HX.out.size
       clear hsc hKl hKJ hkd hq hdn hkb hle hlt hmM hj
       go_upto_region 13 with (fail)
       go_region_law (first
        | (refine step_append_own (by rfl) _ _ _ (by rfl) wo.heap.size 9 is _ 1 16 Tryd.underlying37 his0 his1 his2 his3 rfl (by omega) (.slice x9 KJ.length y9) KJ.length _ (by rfl) (((HKV.out.alloc _).alloc _).drew) ⟨wr.heap.size + 1, 0, none⟩ 1 1 [.string kd] (by rfl) (by rfl) (World.news_of_block (cs := #[.string kd]) (t := 9) (fr := (0, 0)) (heap_second wr _ _)) (by simp [Value.oneCell']) (by unfold maxLen; omega) (by omega) (by simp; omega) ?_; intro v2 w6 hown2 hgrow2 _; obtain ⟨a2, c2, rfl⟩ := owns_shape hown2; have hB6 := SvcBox.grown HBX.out (((Below.refl _ wr).alloc (Nat.le_refl _) _).alloc (by simp) _).drew HKV.out hgrow2; have cv6 := ArrB.cell hB6 1 _ rfl; have fv6 := ArrB.frozen hB6 1))
       all_goals
        have hE6 : Ext wo w6 := Keeps.ext (HX.out.trans (((Below.refl _ wr).alloc (Nat.le_refl _) _).alloc (by simp) _).drew) (Keeps.of_grown (X := fun q => (Value.slice x9 KJ.length y9).ownBlock = some q) hgrow2 (fun _ h => h)) (fun g hg => (HKV.out.lt g hg).1)
        have hbx7 : SvcBox (w6.setCell ⟨wo.heap.size, 1, none⟩ (.slice a2 (KJ.length + 1) c2)) wo.heap.size m k (.slice a2 (KJ.length + 1) c2) := ArrB.set hB6 1 _
        have hk7 := Keeps.of_set (X := fun g => g = wo.heap.size) w6 wo.heap.size 1 (.slice a2 (KJ.length + 1) c2) rfl
        have hown7 := owns_keepT hown2 hk7 (OfT.one hB6) (by decide)
        have HE7 := hide (Keeps.ext hE6 hk7 (fun g hg => by omega))
        have HBX7 := hide hbx7
        have HOW7 := hide hown7
        clear cv6 fv6 hB6 hown2 hgrow2 hbx7 hk7 hown7 hE6 c1 z1 hArr
        go_wp2
        go_roundw
        case rel => exact ⟨j + 1, _, by go_num, by omega, HBX7.out, (by show World.ownsRow _ _ _ _ _ _ _; rw [HSC.out]; simpa [encS] using HOW7.out), HE7.out⟩
        case measure => simp [intOf] <;> omega
      ·have hje : j = k / 1296 % 3 := by omega
       have hjz : ¬ (j : Int) < (k : Int) / 1296 % 3 := by omega
       have HJE := hide hje
       clear hje hjl hj
       go_wp2
       go_meet
       case rel => exact ⟨kv, HBX.out, (by rw [← HJE.out]; exact HKV.out), HX.out⟩
    case rest =>
     obtain ⟨kv, hbx, hkv, hx⟩ := hcut
     have hbx := hbx.out
     have hkv := hkv.out
     obtain ⟨s, hs⟩ : ∃ s : SvcD, s = { svcN L (m + 1) with kv := kv } := ⟨_, rfl⟩
     have hev : encV s = [.int .i64 ((m : Int) + 1), kv, .int .i64 (1 + (k : Int) % 6), .int .i64 (1 + (k : Int) / 6 % 3), .int .i64 (1 + (k : Int) / 18 % 6), .int .i64 (1 + (k : Int) / 108 % 3), .int .i64 ((k : Int) / 324 % 4)] := by rw [hs]; unfold encV svcN; rw [HKE.out]; rfl
     have hsK : s.K = kidsN k (m + 1) (k / 1296 % 3) := by rw [hs]; show kidsN (pk L (1 + (m + 1))) (m + 1) (pk L (1 + (m + 1)) / 1296 % 3) = _; rw [HKE.out]
     have hskv : s.kv = kv := by rw [hs]
     have hscore : s.core = svcN L (m + 1) := by rw [hs]; rfl
     have hC := HCC.out.keep hx
     have hos : wc.ownsRow w.heap.size 9 1 s.kv s.K.length (s.K.flatMap encS) := by rw [hskv, hsK]; exact owns_le hkv (HCC.out.ext.size)
     obtain ⟨ka, kc, hkvs⟩ := owns_shape hkv
     have hshp : ∃ a n c, s.kv = .slice a n c := ⟨_, _, _, hskv.trans hkvs⟩
     have hSl : cc.S.length = m := by
      have := congrArg (fun c => c.S.length) HCR.out
      simpa [ConfD.cor2, ConfD.core, confA, svcsN_len] using this
     have hEl : cc.E.length = m := by
      have := congrArg (fun c => c.E.length) HCR.out
      simpa [ConfD.cor2, ConfD.core, confA, endsA_len] using this
     have hrg : wc.rangeAt wo.heap.size 0 [.int .i64 ((m : Int) + 1), kv, .int .i64 (1 + (k : Int) % 6), .int .i64 (1 + (k : Int) / 6 % 3), .int .i64 (1 + (k : Int) / 18 % 6), .int .i64 (1 + (k : Int) / 108 % 3), .int .i64 ((k : Int) / 324 % 4)] := fun j v hv => by rw [Nat.zero_add]; exact ArrB.cell hbx j v (by simpa using hv)
     obtain ⟨sa, sc, hsv⟩ := owns_shape hC.own.s
     have c0 : wc.cell? ⟨b5, 0, none⟩ = some (.slice sa cc.S.length sc) := by have := hC.box.cell 0 cc.sv rfl; rw [hsv] at this; exact this
     obtain ⟨iv, zv, hiv0, hiv1, hiv2, hiv3, hiv4⟩ := info_partsN Tryd.infoV
     obtain ⟨dv, hdv1, hdv2⟩ := Tryd.svcDesc
     have HC := hide hC
     have HOS := hide hos
     have HEV := hide hev
     have HSHP := hide hshp
     have HSCO := hide hscore
     have HSL := hide (show cc.S.length ≤ 4 by omega)
     have HEL := hide (show cc.E.length ≤ 4 by omega)
     have HRG := hide hrg
     have HSV := hide hsv
     have HLT := hide hlt
     clear hC hos hev hshp hscore hsK hskv hs hSl hEl hrg hsv hkv hbx hx hkvs hlt hle hmM hkb
     go_upto_region 14 with (fail)
     refine wp_region_lit ?_
     refine wpList_plain rfl fun K hK => ?_
     go_simp
     refine hK _ _ ?_
     refine wpList_plain rfl fun K hK => ?_
     go_simp
     refine hK _ _ ?_
     refine wpList_load_mid rfl 70 (.tmp 8) rfl wo.heap.size 0 rfl [.int .i64 ((m : Int) + 1), kv, .int .i64 (1 + (k : Int) % 6), .int .i64 (1 + (k : Int) / 6 % 3), .int .i64 (1 + (k : Int) / 18 % 6), .int .i64 (1 + (k : Int) / 108 % 3), .int .i64 ((k : Int) / 324 % 4)] dv HRG.out hdv1 hdv2 Tryd.svcSize ?_
     refine wpList_plain rfl fun K hK => ?_
     go_simp
     refine hK _ _ ?_
     have hxa : Ext wc (wc.alloc (.cells #[.int .i64 ((m : Int) + 1), kv, .int .i64 (1 + (k : Int) % 6), .int .i64 (1 + (k : Int) / 6 % 3), .int .i64 (1 + (k : Int) / 18 % 6), .int .i64 (1 + (k : Int) / 108 % 3), .int .i64 ((k : Int) / 324 % 4)] 70)) := (Below.refl _ _).alloc (Nat.le_refl _) _
     refine wpList_append_sl (enc := encV) rfl _ _ _ rfl w.heap.size 70 iv zv 7 72 Tryd.underlying54 hiv0 hiv1 hiv2 hiv3 hiv4 (by decide) encV_len (.slice sa cc.S.length sc) cc.S.length (cc.S.flatMap encV) rfl (by have := owns_ext HC.out.own.s hxa; rw [HSV.out] at this; exact this) _ rfl [s] (sl_new1 encV_len wc s 70 _ HEV.out) (fun x hx => by rw [List.mem_singleton.1 hx]; exact encV_one HSHP.out) (by have := HSL.out; unfold maxLen; simp; omega) (by have := HSL.out; simp; omega) (Nat.le_trans HC.out.ext.size hxa.size) ?_
     intro v7 w7 hown7 hg7
     have hown7 : w7.ownsRow w.heap.size 70 7 v7 (cc.S.length + 1) (cc.S.flatMap encV ++ [s].flatMap encV) := hown7
     obtain ⟨a7, y7, rfl⟩ := owns_shape hown7
     have hk7 : Keeps (fun q => cc.sv.ownBlock = some q) wc w7 := (Keeps.of_ext hxa).trans (Keeps.of_grown hg7 (fun q h => by rw [HSV.out]; exact h))
     have hn5 : ¬ cc.sv.ownBlock = some b5 := fun e => absurd (owns_type HC.out.own.s e HC.out.box) (by decide)
     have hb7 := HC.out.box.keep (hk7.block b5 HC.out.box.lt hn5)
     have c7 : w7.cell? ⟨b5, 0, none⟩ = some cc.sv := hb7.cell 0 _ rfl
     have z7 := hb7.frozen 0
     have hC2 := HC.out.addS (s := s) hk7 hown7 HOS.out
     have HC2 := hide hC2
     clear hC2 hb7 hn5 hk7 hown7 hg7 hxa c0 HRG HOS
     refine wpList_plain rfl fun K hK => ?_
     go_simp
     refine hK _ _ ?_
     refine wpList_plain rfl fun K hK => ?_
     go_simp
     refine hK _ _ ?_
     refine wpList_nil ?_
     obtain ⟨c2, hc2⟩ : ∃ c2 : ConfD, ({ cc with sv := .slice a7 (cc.S.length + 1) y7, S := cc.S ++ [s] } : ConfD) = c2 := ⟨_, rfl⟩
     have hC2 := HC2.out
     have hcore2 : c2.cor2 = { confA L m with S := svcsN L (m + 1) } := by
      rw [← hc2, svcsN_succ, ← HSCO.out]
      show ({ cc.cor2 with S := (cc.S ++ [s]).map SvcD.core } : ConfD) = _
      have e : cc.cor2.S = svcsN L m := by rw [HCR.out]; rfl
      have e2 : cc.S.map SvcD.core = svcsN L m := e
      rw [List.map_append, e2, HCR.out]
      rfl
     have hE2 : c2.E.length ≤ 4 := by rw [← hc2]; exact HEL.out
     rw [hc2] at hC2
     generalize w7.setCell ⟨b5, 0, none⟩ (.slice a7 (cc.S.length + 1) y7) = W15 at hC2 ⊢
     obtain ⟨ea, ec, hev2⟩ := owns_shape hC2.own.e
     have c1 : W15.cell? ⟨b5, 1, none⟩ = some (.slice ea c2.E.length ec) := by have := hC2.box.cell 1 c2.ev rfl; rw [hev2] at this; exact this
     obtain ⟨ie, ze, hie0, hie1, hie2, hie3, hie4⟩ := info_partsN Tryd.infoE
     have tf0 : (k : Int).tdiv 7 = (k : Int) / 7 := Int.tdiv_eq_ediv_of_nonneg (by omega)
     have tf1 : IntKind.i64.wrap ((k : Int) / 7) = (k : Int) / 7 := IntWalk.i64_in _ (by omega)
     have tf2 : ((k : Int) / 7).tmod 2 = (k : Int) / 7 % 2 := Int.tmod_eq_emod_of_nonneg (by omega)
     have tf3 : IntKind.i64.wrap ((k : Int) / 7 % 2) = (k : Int) / 7 % 2 := IntWalk.i64_in _ (by omega)
     have tf4 : IntKind.i64.wrap (1 + (k : Int) / 7 % 2) = 1 + (k : Int) / 7 % 2 := IntWalk.i64_in _ (by omega)
     have hee : encE (endA L (m + 1)) = [.int .i64 ((m : Int) + 1), .int .i64 ((m : Int) + 1), .int .i64 (1 + (k : Int) / 7 % 2)] := by unfold encE endA; rw [HKE.out]; rfl
     have HC := hide hC2
     have HCO := hide hcore2
     have HEE := hide hee
     have HEV2 := hide hev2
     have HEL2 := hide hE2
     clear hC2 hcore2 hee hev2 hE2 hc2 HC2 HSV HSL HEL HSCO HSHP HEV HCR HCC c7 z7
     go_upto_region 15 with (fail)
     refine wp_region_lit ?_
     refine wpList_plain rfl fun K hK => ?_
     go_simp
     refine hK _ _ ?_
     refine wpList_plain rfl fun K hK => ?_
     go_simp
     refine hK _ _ ?_
     refine wpList_plain rfl fun K hK => ?_
     go_simp
     refine hK _ _ ?_
     refine wpList_plain rfl fun K hK => ?_
     go_simp
     refine hK _ _ ?_
     refine wpList_plain rfl fun K hK => ?_
     go_simp
     refine hK _ _ ?_
     refine wpList_plain rfl fun K hK => ?_
     go_simp
     refine hK _ _ ?_
     refine wpList_plain rfl fun K hK => ?_
     go_simp
     refine hK _ _ ?_
     refine wpList_plain rfl fun K hK => ?_
     go_simp
     refine hK _ _ ?_
     refine wpList_plain rfl fun K hK => ?_
     go_simp
     refine hK _ _ ?_
     refine wpList_plain rfl fun K hK => ?_
     go_simp
     refine hK _ _ ?_
     have hxa : Ext W15 (W15.alloc (.cells #[.int .i64 ((m : Int) + 1), .int .i64 ((m : Int) + 1), .int .i64 (1 + (k : Int) / 7 % 2)] 116)) := (Below.refl _ _).alloc (Nat.le_refl _) _
     refine wpList_append_sl (enc := encE) rfl _ _ _ rfl w.heap.size 116 ie ze 3 24 Tryd.underlying55 hie0 hie1 hie2 hie3 hie4 (by decide) encE_len (.slice ea c2.E.length ec) c2.E.length (c2.E.flatMap encE) rfl (by have := owns_ext HC.out.own.e hxa; rw [HEV2.out] at this; exact this) _ rfl [endA L (m + 1)] (sl_new1 encE_len W15 (endA L (m + 1)) 116 _ HEE.out) (fun x _ => encE_one x) (by have := HEL2.out; unfold maxLen; simp; omega) (by have := HEL2.out; simp; omega) (Nat.le_trans HC.out.ext.size hxa.size) ?_
     intro v8 w8 hown8 hg8
     have hown8 : w8.ownsRow w.heap.size 116 3 v8 (c2.E.length + 1) (c2.E.flatMap encE ++ [endA L (m + 1)].flatMap encE) := hown8
     obtain ⟨a8, y8, rfl⟩ := owns_shape hown8
     have hk8 : Keeps (fun q => c2.ev.ownBlock = some q) W15 w8 := (Keeps.of_ext hxa).trans (Keeps.of_grown hg8 (fun q h => by rw [HEV2.out]; exact h))
     have hn5 : ¬ c2.ev.ownBlock = some b5 := fun e => absurd (owns_type HC.out.own.e e HC.out.box) (by decide)
     have hb8 := HC.out.box.keep (hk8.block b5 HC.out.box.lt hn5)
     have c8 : w8.cell? ⟨b5, 1, none⟩ = some c2.ev := hb8.cell 1 _ rfl
     have z8 := hb8.frozen 1
     have HC3 := hide (HC.out.addE (s := endA L (m + 1)) hk8 hown8)
     clear hb8 hn5 hk8 hown8 hg8 hxa c1
     refine wpList_plain rfl fun K hK => ?_
     go_simp
     refine hK _ _ ?_
     refine wpList_plain rfl fun K hK => ?_
     go_simp
     refine hK _ _ ?_
     refine wpList_nil ?_
     have hcore3 : ({ c2 with ev := .slice a8 (c2.E.length + 1) y8, E := c2.E ++ [endA L (m + 1)] } : ConfD).cor2 = confA L (m + 1) := by
      show ({ c2.cor2 with E := c2.cor2.E ++ [endA L (m + 1)] } : ConfD) = _
      rw [HCO.out]
      show ({ confA L m with S := svcsN L (m + 1), E := endsA L m ++ [endA L (m + 1)] } : ConfD) = _
      rw [← endsA_succ]
      rfl
     have HCO3 := hide hcore3
     have hm1' := HLT.out
     clear hcore3 c8 z8 tf0 tf1 tf2 tf3 tf4
     go_wp2
     go_roundw
     case rel => exact ⟨m + 1, _, (by show Value.int .i64 _ = Value.int .i64 _; congr 1), by omega, HCO3.out, HC3.out⟩
     case measure => simp [intOf] <;> omega
   ·obtain rfl : m = M := by omega
    have hle : ¬ ((m : Int) + 1) ≤ m := by omega
    clear hlt hmM
    go_wp2
    go_meet
    case rel => exact ⟨cc, HCR.out, HCC.out⟩
 case rest =>
  obtain ⟨c', hcore, hcs⟩ := hcut
  (try simp only [Exit.inBlock, Exit.then])
  apply_assumption
  exact of_frame236 _ rfl (conf_tail6 L a c w wc b5 _ rfl rfl (by rw [HM.out]; rfl) rfl c' (by rw [HM.out]; exact hcore) hcs HS.out HL.out)
end Go.Proofs.YtceaeiaoanhlnaaDoor
