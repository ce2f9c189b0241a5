import Derived.Test.YtceaeiaoanhlnaaDoorOwGw
import Derived.Test.YtceaeiaoanhlnaaDoorZrfw
import Derived.Test.YtceaeiaoanhlnaaDoorGnKw
import Derived.Test.YtceaeiaoanhlnaaDoorZrlw
import Derived.Test.YtceaeiaoanhlnaaDoorRegSw
namespace Go.Proofs.YtceaeiaoanhlnaaDoor
open Go.ChangeShapes Go.WideShapes Go.ChangeAt Go.RowKit Go.Lib Go.Shelf
theorem set_cons16 {α : Type} (a0 a1 a2 a3 a4 a5 a6 a7 a8 a9 a10 a11 a12 a13 a14 a15 : α) (l : List α) (i : Nat) (b : α) : (a0 :: a1 :: a2 :: a3 :: a4 :: a5 :: a6 :: a7 :: a8 :: a9 :: a10 :: a11 :: a12 :: a13 :: a14 :: a15 :: l).set (i + 16) b = a0 :: a1 :: a2 :: a3 :: a4 :: a5 :: a6 :: a7 :: a8 :: a9 :: a10 :: a11 :: a12 :: a13 :: a14 :: a15 :: l.set i b := rfl
/-- a rule in a block of its own -/
def BoxU (w : World) (b : Nat) (r : RuleD) : Prop := OfTR w b ∧ w.rangeAt b 0 (encR r)
theorem BoxU.lt {w : World} {b : Nat} {r : RuleD} (h : BoxU w b r) : b < w.heap.size := by
 obtain ⟨⟨cs, f, hc⟩, -⟩ := h
 exact (Array.getElem?_eq_some_iff.1 hc).1
theorem BoxU.keep {w w' : World} {b : Nat} {r : RuleD} (h : BoxU w b r) (e : w'.heap[b]? = w.heap[b]?) : BoxU w' b r := by
 obtain ⟨⟨cs, f, hc⟩, hr⟩ := h
 exact ⟨⟨cs, f, e.trans hc⟩, fun j v hv => (World.cell?_of_block (w := w) (a := ⟨b, 0 + j, none⟩) e).trans (hr j v hv)⟩
theorem BoxU.ext {w w' : World} {b : Nat} {r : RuleD} (h : BoxU w b r) (e : Ext w w') : BoxU w' b r := h.keep (e.block b h.lt)
theorem BoxU.cell {w : World} {b : Nat} {r : RuleD} (h : BoxU w b r) (j : Nat) (u : Value) (hu : (encR r)[j]? = some u) : w.cell? ⟨b, j, none⟩ = some u := by
 have := h.2 j u hu
 rw [Nat.zero_add] at this
 exact this
theorem BoxU.set {w : World} {b : Nat} {r : RuleD} (h : BoxU w b r) {g : Nat} (hg : g ≠ b) (o : Nat) (u : Value) : BoxU (w.setCell ⟨g, o, none⟩ u) b r := h.keep (Below.heap_setCell w ⟨g, o, none⟩ u b (fun e => hg e.symm))
theorem rule_cell {w : World} {xb xoff n cap : Nat} {Rs : List RuleD} (h : Rules w (.slice (some ⟨xb, xoff, none⟩) n cap) Rs) (i : Nat) (hi : i < Rs.length) (j : Nat) (u : Value) (hu : (encR Rs[i])[j]? = some u) : w.cell? ⟨xb, xoff + i * 19 + j, none⟩ = some u := by
 obtain ⟨b, off, e, -, hc⟩ := rules_at h i hi
 cases e
 exact hc j u hu
set_option maxRecDepth 4000000 in
set_option maxHeartbeats 32000000 in
theorem own8_walk (L : List Int) (v : Value) (n k : Int) (w : World) (hs : Ints w v L) (hL : ∀ x ∈ L, I64 x) (hn : I64 n) (hk : I64 k) (hm : MaxV w) :
  Calls Tryd.prog 3 #[v, .int .i64 n, .int .i64 k] w fun e w' => e = .returned (.bool true) ∧ Ext w w' := by
 obtain ⟨dd, hd1, hd2⟩ := Tryd.ruleDesc
 obtain ⟨_, a, c, rfl⟩ := hs.shape
 have HM := hide hm
 have HS := hide hs
 have HL := hide hL
 have HN := hide hn
 have HK := hide hk
 have HMADE := hide (made_any L _ w hs hL hm)
 clear hs hL hn hk hm
 go_enter Tryd.func3, Tryd.ntmps3
 go_wp2_with fail
 refine HMADE.out.mono ?_
 rintro e w1 ⟨b, v1, Rs, Rs2, B, rfl, hcore, hwB, hown, hvB, hros, hrB, hT, hcore2, E1⟩
 obtain ⟨xa, xc, rfl⟩ := owns_shape hown
 have hBw : B < w1.heap.size := by
  obtain ⟨h1, ⟨vr, vi, h2, -⟩, -⟩ := hT
  exact Nat.lt_of_le_of_lt h1 (Array.getElem?_eq_some_iff.1 h2).1
 have HC := hide hcore
 have HOWN := hide hown
 have HROS := hide hros
 have HRB := hide hrB
 have HT := hide hT
 have HC2 := hide hcore2
 have HE1 := hide E1
 have HBW := hide (And.intro hwB hBw)
 clear hcore hown hvB hros hrB hT hcore2 E1 hwB hBw HMADE
 go_wp2_with fail
 refine (rules_any L _ w1 (HS.out.ext HE1.out) HL.out).mono ?_
 rintro e w2 ⟨v3, Rs3, rfl, hcore3, hown3, hros3, E2⟩
 obtain ⟨ya, yc, rfl⟩ := owns_shape hown3
 have HC3R := hide hcore3
 have HOWN3 := hide hown3
 have HROS3 := hide hros3
 have HE2 := hide E2
 clear hcore3 hown3 hros3 E2 HS HL
 go_wp2_with fail
 refine (pathof_any n w2 HN.out).mono ?_
 rintro e w3 ⟨s, rfl, hsz, E3⟩
 have hs62 : s.size ≤ 62 := by
  have h1 := bl_len s
  rw [hsz] at h1
  have := (pathN_path (arN n 1000000)).2
  omega
 have HSZ := hide hs62
 have HE3 := hide E3
 have hfind := fun X (hX : TabAt B X b Rs2 (rowR Rs2)) (hm : MaxV X) => find_any B b Rs2 (rowR Rs2) s [] (.slice none 0 0) X hX (fun x hx => rowR_mem hx) (show s.size ≤ 9223372036854775807 by omega) hm (sl_nil _ _ _)
 obtain ⟨at1, hat1⟩ : ∃ z, (findI Rs2 (rowR Rs2) (bl s) []).getD 0 = z := ⟨_, rfl⟩
 obtain ⟨is1, his1⟩ : ∃ z, (findI Rs2 (rowR Rs2) (bl s) []).isSome = z := ⟨_, rfl⟩
 simp only [hat1, his1] at hfind
 have HF := hide hfind
 clear hfind hsz hs62 E3 hat1 his1 HN
 go_wp2_with fail
 refine (HF.out w3 (HT.out.ext (HE2.out.trans HE3.out)) (HM.out.ext (HE1.out.trans (HE2.out.trans HE3.out)))).mono ?_
 rintro e w4 ⟨rfl, E4⟩
 have h14 := HE2.out.trans (HE3.out.trans E4)
 have HT4 := hide (HT.out.ext h14)
 have HOWN4 := hide (owns_ext HOWN.out h14)
 have HROS4 := hide (fun r hr => (HROS.out r hr).ext h14)
 have HOWN34 := hide (owns_ext HOWN3.out (HE3.out.trans E4))
 have HROS34 := hide (fun r hr => (HROS3.out r hr).ext (HE3.out.trans E4))
 have HEW := hide (HE1.out.trans h14)
 have h14s := h14.size
 have HB4 := hide (show w.heap.size ≤ B ∧ B ≤ w1.heap.size ∧ w1.heap.size ≤ w4.heap.size from ⟨HBW.out.1, by have := HBW.out.2; omega, h14s⟩)
 have hl2 : Rs2.length = Rs.length := by simpa using congrArg List.length HC2.out
 have hl3 : Rs3.length = Rs.length := by
  have h1 := congrArg List.length HC.out
  have h2 := congrArg List.length HC3R.out
  simp only [List.length_map] at h1 h2
  omega
 have hl5 := rules_len HC.out
 have HLN := hide (show Rs2.length = Rs.length ∧ Rs3.length = Rs.length ∧ Rs.length ≤ 5 from ⟨hl2, hl3, hl5⟩)
 clear E4 h14 h14s HT HOWN HROS HOWN3 HROS3 HE1 HE2 HE3 HBW hl2 hl3 hl5
 obtain ⟨N3, hN3⟩ : ∃ z, Rs3.length = z := ⟨_, rfl⟩
 have HN3 := hide hN3
 rw [hN3]
 clear hN3
 go_wp2_with fail
 go_loopw [13] (fun v13 wr => ∃ i : Nat, i ≤ Rs.length ∧ v13 = .int .i64 i ∧ MuP w.heap.size B w4 wr) (fun i _ => Rs.length - (intOf i).toNat)
 case atStart => exact ⟨0, Nat.zero_le _, rfl, MuP.refl _ _ _⟩
 case round =>
  obtain ⟨i, hi, rfl, hmu⟩ := hrel
  generalize wr = W5 at *
  have HMU := hide hmu
  clear hmu
  by_cases hlt : i < Rs.length
  ·have hltz : (i : Int) < Rs.length := by omega
   have HWI := hide (show IntKind.i64.wrap ((i : Int) + 1) = ((i + 1 : Nat) : Int) by rw [IntKind.wrap_i64]; have := HLN.out.2.2; omega)
   have HALL := hide (fun X (hX : MuP w.heap.size B w4 X) => Sl.of_own' encR_len (hX.own HOWN4.out (.inr (by decide))))
   obtain ⟨xb, xoff, rfl, hxb, -⟩ := rules_at (HALL.out W5 HMU.out) i hlt
   have HCX := hide (fun X (hX : MuP w.heap.size B w4 X) => rule_cell (HALL.out X hX) i hlt)
   have hi3 : i < Rs3.length := by rw [HLN.out.2.1]; exact hlt
   have hi2 : i < Rs2.length := by rw [HLN.out.1]; exact hlt
   have HWA := hide (fun X (hX : MuP w.heap.size B w4 X) => Sl.of_own' encR_len (hX.own HOWN34.out (.inr (by decide))))
   have hya := rules_at (HWA.out W5 HMU.out) i hi3
   obtain ⟨yb, yoff, rfl, hyb, -⟩ := hya
   have HCY := hide (fun X (hX : MuP w.heap.size B w4 X) => rule_cell (HWA.out X hX) i hi3)
   have HO3A := hide (fun X (hX : MuP w.heap.size B w4 X) => hX.rule (HROS34.out _ (List.getElem_mem hi3)) HB4.out.2.1)
   have hro := HROS4.out _ (List.getElem_mem hlt)
   have hrb := HRB.out _ (List.getElem_mem hlt)
   obtain ⟨_, hc2i⟩ := core_at HC2.out i hlt
   have hc3i : Rs3[i].core = Rs[i].core := by
    obtain ⟨_, h⟩ := core_at (HC3R.out.trans HC.out.symm) i hlt
    exact h
   have hmild := rules_mild HC.out _ (List.getElem_mem hlt)
   obtain ⟨r0, hr0⟩ : ∃ r, Rs[i] = r := ⟨_, rfl⟩
   obtain ⟨r3, hr3⟩ : ∃ r, Rs3[i] = r := ⟨_, rfl⟩
   obtain ⟨rt, hrt⟩ : ∃ r, Rs2[i] = r := ⟨_, rfl⟩
   rw [hr0] at hro hrb hc2i hc3i hmild
   rw [hr3] at hc3i
   rw [hrt] at hc2i
   simp only [hr0] at HCX
   simp only [hr3] at HCY HO3A
   have HRULE := hide (fun X (hX : MuP w.heap.size B w4 X) => (by have h := trule_any (hX.tab HT4.out) i hi2 (fun r hr => (rules_mild (HC2.out.trans HC.out) r hr).len) (by have := HLN.out; omega); rw [hrt] at h; exact h : Calls Tryd.prog 10 #[.pointer (some ⟨b, 0, none⟩), .int .i64 i] X fun e w' => ∃ r', e = .returned r'.val ∧ Same rt r' ∧ RuleOwn X.heap.size w' r' ∧ Ext X w'))
   obtain ⟨pa, pc, hpv⟩ := owns_shape hro.2.1
   have HSAME := hide (show Same rt r3 ∧ Mild rt from ⟨core_same (hc3i.trans hc2i.symm), Mild.of hc2i hmild⟩)
   have HRO := hide hro
   have HRBI := hide hrb
   have HPV := hide hpv
   have HML := hide hmild.len.2.1
   clear hr0 hr3 hrt hro hrb hc2i hc3i hpv hmild
   go_wp2_with fail
   go_loopw [14] (fun v14 wr => ∃ j : Nat, j ≤ r0.P.length ∧ v14 = .int .i64 j ∧ MuP w.heap.size B w4 wr) (fun j _ => r0.P.length - (intOf j).toNat)
   case atStart => exact ⟨0, Nat.zero_le _, rfl, HMU.out⟩
   case round =>
    obtain ⟨j, hj, rfl, hmu⟩ := hrel
    generalize wr = W6 at *
    have HMU6 := hide hmu
    clear hmu HMU
    have c3 : W6.cell? ⟨xb, xoff + i * 19 + 3, none⟩ = some (.slice pa r0.P.length pc) := by rw [← HPV.out]; exact HCX.out W6 HMU6.out 3 _ rfl
    by_cases hltj : j < r0.P.length
    ·have hjz : (j : Int) < r0.P.length := by omega
     have hop := HRO.out.2.1
     rw [HPV.out] at hop
     obtain ⟨g, cg, hgv, -⟩ := owns_form hop (by omega)
     cases hgv
     have hpx : PX w.heap.size B w4 g := PX.of hop (HRBI.out g (by unfold RuleD.has; rw [HPV.out]; simp [Value.ownBlock]))
     obtain ⟨⟨u0, d0⟩, z0⟩ := HMU6.out.any hop (j * 2) (by omega)
     obtain ⟨⟨u1, d1⟩, z1⟩ := HMU6.out.any hop (j * 2 + 1) (by omega)
     have HPX := hide hpx
     have hwj : IntKind.i64.wrap ((j : Int) + 1) = ((j + 1 : Nat) : Int) := by rw [IntKind.wrap_i64]; have := HML.out; omega
     clear hop hpx
     go_wp2
     go_roundw
     case rel => exact ⟨j + 1, by omega, by first | rfl | go_num | simp, (HMU6.out.set (.inl HPX.out) _ _).set (.inl HPX.out) _ _⟩
     case measure => (simp [intOf]) <;> omega
    ·have hjz : ¬ (j : Int) < r0.P.length := by omega
     clear hlt
     go_wp2_with fail
     refine (HRULE.out W6 HMU6.out).mono ?_
     rintro e w7 ⟨r1, rfl, hs1, ho1, E7⟩
     have HMU7 := hide (HMU6.out.ext E7)
     have hm4 : w4.heap.size ≤ W6.heap.size := HMU6.out.k.size
     have HO1 := hide (ho1.mono hm4)
     have HS1 := hide hs1
     clear c3 hjz hltj hs1 ho1 E7
     have hbz := heap_alloc_new w7 (.cells #[.string ⟨#[]⟩, .bool false, .slice none 0 0, .slice none 0 0, .int .i64 0, .int .i64 0, .int .i64 0, .int .i64 0, .string ⟨#[]⟩, .slice none 0 0, .slice none 0 0, .int .i64 0, .int .i64 0, .int .i64 0, .int .i64 0, .int .i64 0, .int .i64 0, .int .i64 0, .int .i64 0] 43)
     have hxz : Ext w7 (w7.alloc (.cells #[.string ⟨#[]⟩, .bool false, .slice none 0 0, .slice none 0 0, .int .i64 0, .int .i64 0, .int .i64 0, .int .i64 0, .string ⟨#[]⟩, .slice none 0 0, .slice none 0 0, .int .i64 0, .int .i64 0, .int .i64 0, .int .i64 0, .int .i64 0, .int .i64 0, .int .i64 0, .int .i64 0] 43)) := (Below.refl _ _).alloc (Nat.le_refl _) _
     have hth : (w7.alloc (.cells #[.string ⟨#[]⟩, .bool false, .slice none 0 0, .slice none 0 0, .int .i64 0, .int .i64 0, .int .i64 0, .int .i64 0, .string ⟨#[]⟩, .slice none 0 0, .slice none 0 0, .int .i64 0, .int .i64 0, .int .i64 0, .int .i64 0, .int .i64 0, .int .i64 0, .int .i64 0, .int .i64 0] 43)).there w7.heap.size 0 (encR r1).toArray.size := fun q hq => by
      have hq' : q < 19 := hq
      rw [Nat.zero_add]
      refine ⟨?_, by simp only [World.frozen?]; rw [hbz]; simp⟩
      simp only [World.cell?, hbz]
      simp [hq']
     go_upto_region 15 with (refine wpList_store_mid rfl 43 (.tmp 15) (.tmp 65) rfl w7.heap.size 0 (encR r1).toArray rfl rfl hth Tryd.ruleSize (all_oneCell_toArray (encR_one' r1 HO1.out.ok)) ?_)
     generalize w7.alloc (.cells #[.string ⟨#[]⟩, .bool false, .slice none 0 0, .slice none 0 0, .int .i64 0, .int .i64 0, .int .i64 0, .int .i64 0, .string ⟨#[]⟩, .slice none 0 0, .slice none 0 0, .int .i64 0, .int .i64 0, .int .i64 0, .int .i64 0, .int .i64 0, .int .i64 0, .int .i64 0, .int .i64 0] 43) = Wz at hbz hxz hth ⊢
     obtain ⟨b15, hbe⟩ : ∃ b, w7.heap.size = b := ⟨_, rfl⟩
     rw [hbe] at hbz hth ⊢
     have hrs := World.rangeAt_setCells_same Wz b15 0 (encR r1) hth
     obtain ⟨cs, hcs1, hcs2⟩ := setCells_block b15 43 (0, 0) (encR r1) 0 Wz _ hbz
     have hk5 := keeps_setCells b15 (encR r1) 0 Wz
     show Code.wp _ _ _ _ (Wz.setCells b15 0 (encR r1))
     generalize Wz.setCells b15 0 (encR r1) = W8 at hrs hk5 hcs1 ⊢
     have HB15 := hide (show BoxU W8 b15 r1 from ⟨⟨_, _, hcs1⟩, hrs⟩)
     have HE8 := hide (Keeps.ext hxz hk5 (fun g hg => by omega))
     have hGb15 : w7.heap.size ≤ b15 := by omega
     clear hrs hk5 hcs1 hcs2 hbz hxz hth
     simp only [Act.put]
     have HMU8 := hide (HMU7.out.ext HE8.out)
     have hb15 : w4.heap.size ≤ b15 := by have := HMU7.out.k.size; omega
     have HO18 := hide (HO1.out.ext HE8.out)
     obtain ⟨p1, cp1, hpv1⟩ := owns_shape HO1.out.2.1
     have HPV1 := hide hpv1
     have hP3 : r3.P = r1.P := by
      have h1 := congrArg RuleD.P HSAME.out.1.core
      have h2 := congrArg RuleD.P HS1.out.core
      exact (show r3.P = rt.P from h1).trans (show r1.P = rt.P from h2).symm
     have HP3 := hide hP3
     have HML1 := hide (Mild.of HS1.out.core HSAME.out.2).len.2.1
     clear hpv1 hm4 hGb15 HMU7 HO1 HE8 hP3
     go_wp2_with fail
     go_loopw [16] (fun v16 wr => ∃ j : Nat, j ≤ r1.P.length ∧ v16 = .int .i64 j ∧ ∃ Q : List (Int × Int), Q.length = r1.P.length ∧ Q.drop j = r1.P.drop j ∧ wr.ownsRow w4.heap.size 45 2 (.slice p1 r1.P.length cp1) r1.P.length (Q.flatMap encP) ∧ BoxU wr b15 r1 ∧ MuP w.heap.size B w4 wr) (fun j _ => r1.P.length - (intOf j).toNat)
     case atStart => exact ⟨0, Nat.zero_le _, rfl, r1.P, rfl, rfl, by have := HO18.out.2.1; rw [HPV1.out] at this; exact this, HB15.out, HMU8.out⟩
     case round =>
      obtain ⟨j, hj, rfl, Q, hQl, hQd, hQo, hbx, hmu⟩ := hrel
      generalize wr = W9 at *
      have HMU9 := hide hmu
      have HBX := hide hbx
      have HQO := hide hQo
      have HQL := hide hQl
      have c3 : W9.cell? ⟨b15, 3, none⟩ = some (.slice p1 r1.P.length cp1) := by rw [← HPV1.out]; exact HBX.out.cell 3 _ rfl
      clear hmu hbx hQo HMU8 HB15 HO18
      by_cases hltj : j < r1.P.length
      ·have hjz : (j : Int) < r1.P.length := by omega
       have hQj : Q[j]? = r1.P[j]? := by
        have := congrArg (fun l => l[0]?) hQd
        simpa [List.getElem?_drop] using this
       have hop := HQO.out
       obtain ⟨g, cg, hgv, -⟩ := owns_form hop (by omega)
       cases hgv
       have hge := (hop.lt g rfl).1
       have hsl : Parts W9 (.slice (some ⟨g, 0, none⟩) r1.P.length cp1) Q := by
        have h := hop
        rw [← HQL.out] at h ⊢
        exact Sl.of_own' (enc := encP) (size := 2) (fun _ => rfl) h
       obtain ⟨b', off', e1, hbb', d0, d1⟩ := parts_at hsl j (by rw [HQL.out]; exact hltj)
       cases e1
       have hq3 := (HO3A.out W9 HMU9.out).ok.2.1
       obtain ⟨-, p3, cp3, hpv3⟩ := hq3.shape
       rw [hpv3, HP3.out] at hq3
       have y3 : W9.cell? ⟨yb, yoff + i * 19 + 3, none⟩ = some (.slice p3 r1.P.length cp3) := by
        have h := HCY.out W9 HMU9.out 3 _ rfl
        rw [hpv3, HP3.out] at h
        exact h
       obtain ⟨g3, o3, rfl, hbb3, t0, t1⟩ := parts_at hq3 j hltj
       have hQ2 : Q[j]'(by rw [HQL.out]; exact hltj) = r1.P[j] := by
        rw [List.getElem?_eq_getElem (by rw [HQL.out]; exact hltj), List.getElem?_eq_getElem hltj] at hQj
        exact Option.some.inj hQj
       rw [hQ2] at d0 d1
       have hdr : (Q.set j (8, 8)).drop (j + 1) = r1.P.drop (j + 1) := by
        rw [List.drop_set_of_lt (by omega)]
        have := congrArg (List.drop 1) hQd
        rw [List.drop_drop, List.drop_drop] at this
        rw [Nat.add_comm j 1] at *
        first | exact this | (simpa [Nat.add_comm] using this)
       have hgb : g ≠ b15 := fun e => by
        obtain ⟨⟨cs, f, hc⟩, -⟩ := HBX.out
        subst e
        exact absurd (owns_type hop rfl hc) (by decide)
       have HREL := hide (show (Q.set j (8, 8)).length = r1.P.length ∧ (Q.set j (8, 8)).drop (j + 1) = r1.P.drop (j + 1) from ⟨by rw [List.length_set]; exact HQL.out, hdr⟩)
       have HGE := hide (And.intro hge hgb)
       have hi3z : (i : Int) < N3 := by have := HN3.out; have := HLN.out.2.1; omega
       generalize r1.P[j] = x at d0 d1 t0 t1
       obtain ⟨xs, xw⟩ := x
       simp only at d0 d1 t0 t1
       have hwj : IntKind.i64.wrap ((j : Int) + 1) = ((j + 1 : Nat) : Int) := by rw [IntKind.wrap_i64]; have := HML1.out; omega
       clear hop hsl hq3 hpv3 hQj hQ2 hdr hge hgb hQd hQl
       simp only [Nat.zero_add] at d0 d1
       go_wp2_with fail
       go_quiet (fail)
       rename_i nq
       have hEd : Ext W9 (W9.drewN nq) := Below.drewN' (Below.refl _ _) nq
       generalize W9.drewN nq = Wd at hEd ⊢
       have hop := owns_ext HQO.out hEd
       have HBXd := hide (HBX.out.ext hEd)
       have HMUd := hide (HMU9.out.ext hEd)
       have HSET := hide (own_part hop HQL.out.symm j (by rw [HQL.out]; exact hltj) 8 8)
       have c3d : Wd.cell? ⟨b15, 3, none⟩ = some (.slice (some ⟨g, 0, none⟩) r1.P.length cp1) := (hEd.cell (p := ⟨b15, 3, none⟩) HBX.out.lt).trans c3
       have d0d := (hEd.cell (p := ⟨g, j * 2, none⟩) hbb').trans d0
       have d1d := (hEd.cell (p := ⟨g, j * 2 + 1, none⟩) hbb').trans d1
       have z0 := hop.frozenAt (j * 2)
       have z1 := hop.frozenAt (j * 2 + 1)
       clear c3 d0 d1 t0 t1 y3 hop hEd
       go_wp2
       go_roundw
       case rel => exact ⟨j + 1, by omega, by first | rfl | go_num | simp, Q.set j (8, 8), HREL.out.1, HREL.out.2, HSET.out, (HBXd.out.set HGE.out.2 _ _).set HGE.out.2 _ _, (HMUd.out.set (.inr HGE.out.1) _ _).set (.inr HGE.out.1) _ _⟩
       case measure => (simp [intOf]) <;> omega
      ·have hjz : ¬ (j : Int) < r1.P.length := by omega
       go_wp2_with fail
       refine (HRULE.out W9 HMU9.out).mono ?_
       rintro e w10 ⟨r2, rfl, hs2, ho2, E10⟩
       have hm4 : w4.heap.size ≤ W9.heap.size := HMU9.out.k.size
       have HO2 := hide (ho2.mono hm4)
       have HMU10 := hide (HMU9.out.ext E10)
       have HS23 := hide (same_trans hs2 HSAME.out.1)
       have HMI2 := hide (Mild.of hs2.core HSAME.out.2)
       clear hs2 ho2 E10 hm4 c3 hjz hltj hQd hQl HQO HBX HQL HMU9 HPV1 HP3 HS1 HMU6 HPV HRO HRBI HCX HALL
       have hbz := heap_alloc_new w10 (.cells #[.string ⟨#[]⟩, .bool false, .slice none 0 0, .slice none 0 0, .int .i64 0, .int .i64 0, .int .i64 0, .int .i64 0, .string ⟨#[]⟩, .slice none 0 0, .slice none 0 0, .int .i64 0, .int .i64 0, .int .i64 0, .int .i64 0, .int .i64 0, .int .i64 0, .int .i64 0, .int .i64 0] 43)
       have hxz : Ext w10 (w10.alloc (.cells #[.string ⟨#[]⟩, .bool false, .slice none 0 0, .slice none 0 0, .int .i64 0, .int .i64 0, .int .i64 0, .int .i64 0, .string ⟨#[]⟩, .slice none 0 0, .slice none 0 0, .int .i64 0, .int .i64 0, .int .i64 0, .int .i64 0, .int .i64 0, .int .i64 0, .int .i64 0, .int .i64 0] 43)) := (Below.refl _ _).alloc (Nat.le_refl _) _
       have hth : (w10.alloc (.cells #[.string ⟨#[]⟩, .bool false, .slice none 0 0, .slice none 0 0, .int .i64 0, .int .i64 0, .int .i64 0, .int .i64 0, .string ⟨#[]⟩, .slice none 0 0, .slice none 0 0, .int .i64 0, .int .i64 0, .int .i64 0, .int .i64 0, .int .i64 0, .int .i64 0, .int .i64 0, .int .i64 0] 43)).there w10.heap.size 0 (encR r2).toArray.size := fun q hq => by
        have hq' : q < 19 := hq
        rw [Nat.zero_add]
        refine ⟨?_, by simp only [World.frozen?]; rw [hbz]; simp⟩
        simp only [World.cell?, hbz]
        simp [hq']
       go_upto_region 22 with (refine wpList_store_mid rfl 43 (.tmp 17) (.tmp 94) rfl w10.heap.size 0 (encR r2).toArray rfl rfl hth Tryd.ruleSize (all_oneCell_toArray (encR_one' r2 (HO2.out.ok))) ?_)
       generalize w10.alloc (.cells #[.string ⟨#[]⟩, .bool false, .slice none 0 0, .slice none 0 0, .int .i64 0, .int .i64 0, .int .i64 0, .int .i64 0, .string ⟨#[]⟩, .slice none 0 0, .slice none 0 0, .int .i64 0, .int .i64 0, .int .i64 0, .int .i64 0, .int .i64 0, .int .i64 0, .int .i64 0, .int .i64 0] 43) = Wz at hbz hxz hth ⊢
       obtain ⟨b17, hbe⟩ : ∃ b, w10.heap.size = b := ⟨_, rfl⟩
       rw [hbe] at hbz hth ⊢
       have hrs := World.rangeAt_setCells_same Wz b17 0 (encR r2) hth
       obtain ⟨cs, hcs1, hcs2⟩ := setCells_block b17 43 (0, 0) (encR r2) 0 Wz _ hbz
       have hk5 := keeps_setCells b17 (encR r2) 0 Wz
       show Code.wp _ _ _ _ (Wz.setCells b17 0 (encR r2))
       generalize Wz.setCells b17 0 (encR r2) = W12 at hrs hk5 hcs1 ⊢
       have HB17 := hide (show BoxU W12 b17 r2 from ⟨⟨_, _, hcs1⟩, hrs⟩)
       have HE11 := hide (Keeps.ext hxz hk5 (fun g hg => by omega))
       have hGb17 : w10.heap.size ≤ b17 := by omega
       clear hrs hk5 hcs1 hcs2 hbz hxz hth
       simp only [Act.put]
       have HMU12 := hide (HMU10.out.ext HE11.out)
       have ho2 := HO2.out.ext HE11.out
       have ho3 := HO3A.out W12 HMU12.out
       have hcy := HCY.out W12 HMU12.out
       have hb17 := HB17.out
       obtain ⟨path, ex, hv2, H, pv2, P, mi, ab, de, ti, pre, sv2, S, dv2, D, q0, q1, q2, q3, q4, q5, q6, rate⟩ := r2
       obtain ⟨hv3, pv3, sv3, dv3, hrr⟩ := HS23.out
       subst hrr
       obtain ⟨ah2, ch2, hz1⟩ := owns_shape ho2.1
       obtain ⟨ap2, cp2, hz2⟩ := owns_shape ho2.2.1
       obtain ⟨as2, cs2, hz3⟩ := owns_shape ho2.2.2.1
       obtain ⟨ad2, cd2, hz4⟩ := owns_shape ho2.2.2.2
       obtain ⟨ah3, ch3, hz5⟩ := owns_shape ho3.1
       obtain ⟨ap3, cp3, hz6⟩ := owns_shape ho3.2.1
       obtain ⟨as3, cs3, hz7⟩ := owns_shape ho3.2.2.1
       obtain ⟨ad3, cd3, hz8⟩ := owns_shape ho3.2.2.2
       simp only at hz1 hz2 hz3 hz4 hz5 hz6 hz7 hz8
       subst hz1 hz2 hz3 hz4 hz5 hz6 hz7 hz8
       have HC17 := hide (fun X (hX : Ext W12 X) => (hb17.ext hX).cell)
       have HC3 := hide (fun X (hX : Ext W12 X) => fun j u hu => (hX.cell (p := ⟨yb, yoff + i * 19 + j, none⟩) (World.block_lt_of_cell? W12 _ (hcy j u hu))).trans (hcy j u hu))
       have HO2 := hide ho2
       have HO3 := hide ho3
       have hmi := HMI2.out
       have HMI := hide (show path.size ≤ 62 ∧ pre.size ≤ 62 ∧ Sp.SumFits P from ⟨hmi.path, hmi.pre, hmi.sum⟩)
       have HI0 := hide (show (0 : Int) ≤ i ∧ (i : Int) < N3 from ⟨by omega, by have := HN3.out; have := HLN.out.2.1; omega⟩)
       have HEWW := hide (HMU12.out.out HEW.out (Nat.le_refl _))
       clear ho2 ho3 hcy hb17 hmi HS23 HMI2 HMU10 HB17 HE11 HO3A HCY
       have HOK2 := hide HO2.out.ok
       have HOK3 := hide HO3.out.ok
       have HM12 := hide (HM.out.ext HEWW.out)
       refine own8_r22 W12 b17 yb yoff i N3 yc s path pre ex H S P D ah2 ap2 as2 ad2 ah3 ap3 as3 ad3 ch2 cp2 cs2 cd2 ch3 cp3 cs3 cd3 mi ab de ti q0 q1 q2 q3 q4 q5 q6 rate HC17 HC3 HOK2 HOK3 HM12 HSZ HMI HI0 _ rfl rfl rfl rfl rfl _ ?_
       intro X w' hx9 e18
       simp only [overF, List.foldl_cons, List.foldl_nil, List.setIfInBounds_toArray, set_cons16]
       simp only [List.set_cons_succ, List.set_cons_zero, e18]
       clear e18
       generalize w' = W13 at *
       have HE13 := hide hx9
       clear hx9
       go_upto_region 23 with (fail)
       have HC17' := hide (fun X (hX : Ext W13 X) => HC17.out X (HE13.out.trans hX))
       have HC3' := hide (fun X (hX : Ext W13 X) => HC3.out X (HE13.out.trans hX))
       have HOK23 := hide (HOK2.out.ext HE13.out)
       have HOK33 := hide (HOK3.out.ext HE13.out)
       have HM13 := hide (HM12.out.ext HE13.out)
       refine own8_r23 W13 b17 yb yoff i N3 yc s path pre ex H S P D ah2 ap2 as2 ad2 ah3 ap3 as3 ad3 ch2 cp2 cs2 cd2 ch3 cp3 cs3 cd3 mi ab de ti q0 q1 q2 q3 q4 q5 q6 rate HC17' HC3' HOK23 HOK33 HM13 HSZ HMI HI0 _ rfl rfl rfl rfl rfl rfl _ ?_
       intro X w' hx9 e182
       simp only [overF, List.foldl_cons, List.foldl_nil, List.setIfInBounds_toArray, set_cons16]
       simp only [List.set_cons_succ, List.set_cons_zero, e182]
       clear e182
       generalize w' = W14 at *
       have HE14 := hide hx9
       clear hx9
       have HZ := hide (HMU12.out.ext (HE13.out.trans HE14.out))
       have hwi := HWI.out
       clear HWI HC17 HC3 HC17' HC3' HO2 HO3 HOK2 HOK3 HOK23 HOK33
       go_wp2
       go_roundw
       case rel => exact ⟨i + 1, by omega, by first | go_num | rfl | simp, HZ.out⟩
       case measure => (simp [intOf]) <;> omega
  ·obtain rfl : i = Rs.length := by omega
   have hltz : ¬ ((Rs.length : Nat) : Int) < Rs.length := by omega
   have HEW5 := hide (HMU.out.out HEW.out (Nat.le_refl _))
   have ht5 := HMU.out.tab HT4.out
   have HT5 := hide ht5
   have HR1 := hide (HF.out W5 ht5 (HM.out.ext HEW5.out))
   have har := fun X => around_any k 9 X HK.out (by omega)
   have hr1 := around_bd k 9 (by decide)
   obtain ⟨q, hq⟩ : ∃ q : Int, around k 9 = q := ⟨_, rfl⟩
   rw [hq] at hr1
   simp only [hq] at har
   have HAR := hide har
   have hwq0 : IntKind.i64.wrap ((N3 : Int) + q) = (N3 : Int) + q := by rw [IntKind.wrap_i64]; have := HN3.out; have := HLN.out.2; omega
   obtain ⟨m, hwq⟩ : ∃ m : Int, IntKind.i64.wrap ((N3 : Int) + q) = m := ⟨_, rfl⟩
   have HNO := hide (show ((Rs2.length : Nat) : Int) ≤ m by rw [← hwq, hwq0]; have := HN3.out; have := HLN.out; omega)
   have HL20 := hide (show Rs2.length ≤ 1000 from by have := HLN.out; omega)
   clear ht5 har hq hlt hwq0 hr1
   go_wp2_with fail
   refine HR1.out.mono ?_
   rintro e w6 ⟨rfl, E6⟩
   have HT6 := hide (HT5.out.ext E6)
   have HE6 := hide (HEW5.out.trans E6)
   clear E6 HR1
   go_wp2_with fail
   refine (HAR.out _).mono ?_
   rintro e w' ⟨rfl, rfl⟩
   clear HAR
   go_wp2_with fail
   refine (trule_none HT6.out m (.inr HNO.out) HL20.out).mono ?_
   rintro e w7 ⟨rfl, E7⟩
   have HT7 := hide (HT6.out.ext E7)
   have HE7 := hide (HE6.out.trans E7)
   clear E7
   have hbz := heap_alloc_new w7 (.cells #[.string ⟨#[]⟩, .bool false, .slice none 0 0, .slice none 0 0, .int .i64 0, .int .i64 0, .int .i64 0, .int .i64 0, .string ⟨#[]⟩, .slice none 0 0, .slice none 0 0, .int .i64 0, .int .i64 0, .int .i64 0, .int .i64 0, .int .i64 0, .int .i64 0, .int .i64 0, .int .i64 0] 43)
   have hxz : Ext w7 (w7.alloc (.cells #[.string ⟨#[]⟩, .bool false, .slice none 0 0, .slice none 0 0, .int .i64 0, .int .i64 0, .int .i64 0, .int .i64 0, .string ⟨#[]⟩, .slice none 0 0, .slice none 0 0, .int .i64 0, .int .i64 0, .int .i64 0, .int .i64 0, .int .i64 0, .int .i64 0, .int .i64 0, .int .i64 0] 43)) := (Below.refl _ _).alloc (Nat.le_refl _) _
   have hth : (w7.alloc (.cells #[.string ⟨#[]⟩, .bool false, .slice none 0 0, .slice none 0 0, .int .i64 0, .int .i64 0, .int .i64 0, .int .i64 0, .string ⟨#[]⟩, .slice none 0 0, .slice none 0 0, .int .i64 0, .int .i64 0, .int .i64 0, .int .i64 0, .int .i64 0, .int .i64 0, .int .i64 0, .int .i64 0] 43)).there w7.heap.size 0 (encR zeroR).toArray.size := fun q hq => by
    have hq' : q < 19 := hq
    rw [Nat.zero_add]
    refine ⟨?_, by simp only [World.frozen?]; rw [hbz]; simp⟩
    simp only [World.cell?, hbz]
    simp [hq']
   go_upto_region 27 with (refine wpList_store_mid rfl 43 (.tmp 21) (.tmp 195) rfl w7.heap.size 0 (encR zeroR).toArray rfl rfl hth Tryd.ruleSize (all_oneCell_toArray (encR_one' zeroR (w := w7) ⟨sl_nil _ _ _, sl_nil _ _ _, sl_nil _ _ _, sl_nil _ _ _⟩)) ?_)
   generalize w7.alloc (.cells #[.string ⟨#[]⟩, .bool false, .slice none 0 0, .slice none 0 0, .int .i64 0, .int .i64 0, .int .i64 0, .int .i64 0, .string ⟨#[]⟩, .slice none 0 0, .slice none 0 0, .int .i64 0, .int .i64 0, .int .i64 0, .int .i64 0, .int .i64 0, .int .i64 0, .int .i64 0, .int .i64 0] 43) = Wz at hbz hxz hth ⊢
   obtain ⟨b21, hbe⟩ : ∃ b, w7.heap.size = b := ⟨_, rfl⟩
   rw [hbe] at hbz hth ⊢
   have hrs := World.rangeAt_setCells_same Wz b21 0 (encR zeroR) hth
   obtain ⟨cs, hcs1, hcs2⟩ := setCells_block b21 43 (0, 0) (encR zeroR) 0 Wz _ hbz
   have hk5 := keeps_setCells b21 (encR zeroR) 0 Wz
   show Code.wp _ _ _ _ (Wz.setCells b21 0 (encR zeroR))
   generalize Wz.setCells b21 0 (encR zeroR) = W8 at hrs hk5 hcs1 ⊢
   have HB21 := hide (show BoxU W8 b21 zeroR from ⟨⟨_, _, hcs1⟩, hrs⟩)
   have HE21 := hide (Keeps.ext hxz hk5 (fun g hg => by omega))
   have hGb21 : w7.heap.size ≤ b21 := by omega
   clear hrs hk5 hcs1 hcs2 hbz hxz hth
   simp only [Act.put]
   have c21 := HB21.out.cell
   have d0 := c21 0 _ rfl
   have d3 := c21 3 _ rfl
   have f0 := c21 11 _ rfl
   have f1 := c21 12 _ rfl
   have f2 := c21 13 _ rfl
   have f3 := c21 14 _ rfl
   have f4 := c21 15 _ rfl
   have f5 := c21 16 _ rfl
   have f6 := c21 17 _ rfl
   have HE8 := hide (HE7.out.trans HE21.out)
   have HT8 := hide (HT7.out.ext HE21.out)
   clear c21
   simp only [zeroR] at d0 d3 f0 f1 f2 f3 f4 f5 f6
   go_wp2_with fail
   refine (trule_none HT8.out (-1) (.inl (by omega)) HL20.out).mono ?_
   rintro e w9 ⟨rfl, E9⟩
   have HE9 := hide (HE8.out.trans E9)
   clear E9 d0 d3 f0 f1 f2 f3 f4 f5 f6
   simp only [RuleD.val, zeroR]
   have hfl : ∀ X, (Instr.field 43 (.agg #[.string ⟨#[]⟩, .bool false, .slice none 0 0, .slice none 0 0, .int .i64 0, .int .i64 0, .int .i64 0, .int .i64 0, .string ⟨#[]⟩, .slice none 0 0, .slice none 0 0, .int .i64 0, .int .i64 0, .int .i64 0, .int .i64 0, .int .i64 0, .int .i64 0, .int .i64 0, .int .i64 0]) 1).run Tryd.prog X = .ok (.slice none 0 0) X := fun X => by kernel_rfl
   go_wp2_with fail
   refine (lives_any w9 (HM.out.ext HE9.out)).mono ?_
   rintro e w10 ⟨rfl, E10⟩
   have HZ := hide (HE9.out.trans E10)
   clear E10
   go_wp2
   go_ret
   exact ⟨rfl, HZ.out⟩
end Go.Proofs.YtceaeiaoanhlnaaDoor
