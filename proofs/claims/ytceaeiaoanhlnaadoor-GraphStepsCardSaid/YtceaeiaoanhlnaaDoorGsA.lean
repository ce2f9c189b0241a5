import Derived.Test.YtceaeiaoanhlnaaDoorGkV
import Derived.Test.YtceaeiaoanhlnaaDoorRegY
namespace Go.Proofs.YtceaeiaoanhlnaaDoor
open Go.ChangeShapes Go.WideShapes Go.ChangeAt Go.RowKit Go.Lib Go.Shelf Go.Maps
theorem cell_ext {w X : World} (hX : Ext w X) {g o : Nat} {u : Value} (h : w.cell? ⟨g, o, none⟩ = some u) : X.cell? ⟨g, o, none⟩ = some u := by
 have h1 := hX.block g (World.block_lt_of_cell? w _ h)
 simp only [World.cell?] at h ⊢
 rw [h1]
 exact h
theorem great_snoc (l : List Int) (f : Int → Int) (j : Nat) (hj : j < l.length) : great (l.take (j + 1)) f = max (great (l.take j) f) (f l[j]) := by
 unfold great
 rw [take_snoc l j hj, List.foldl_append]
 rfl
theorem stp_snoc (Ks : List (List Int)) (own : Int) (f : Int → Int) (k : Nat) (hk : k < Ks.length) : stpN (Ks.take (k + 1)) own f = sumM (stpN (Ks.take k) own f) (great Ks[k] f) := by
 unfold stpN
 rw [take_snoc Ks k hk, List.foldl_append]
 rfl
theorem stp_bd (Ks : List (List Int)) (own : Int) (f : Int → Int) (h : 0 ≤ own ∧ own ≤ mostN) : 0 ≤ stpN Ks own f ∧ stpN Ks own f ≤ mostN := by
 induction Ks generalizing own with
 | nil => exact h
 | cons l Ks ih =>
  refine ih (sumM own (great l f)) ?_
  have := great_nn f l
  unfold sumM
  omega
/-- a mesh in a box -/
theorem mesh_gc {L : List Int} {q : Int} {c c0 : ConfD} (h0 : c0.core = genC L) (hc : c = meshC q c0) : chkC c = 0 ∧ ConfFit c := by
 obtain ⟨h1, h2, -⟩ := good_conf h0
 subst hc
 exact ⟨meshC_right q h2, meshC_fit q (chk_R h2) h1⟩
set_option maxRecDepth 100000 in
set_option maxHeartbeats 16000000 in
theorem steps_any (L : List Int) (how fr tgt depth : Int) (v : Value) (w : World) (hm : MaxV w) (hs : Ints w v L) (hL : ∀ x ∈ L, I64 x) (hh : I64 how) (hfr : I64 fr) (htg : I64 tgt) (hdp : I64 depth) :
  Calls Tryd.prog 4 #[v, .int .i64 how, .int .i64 fr, .int .i64 tgt, .int .i64 depth] w fun e w' => e = .returned (.bool true) ∧ Ext w w' := by
 obtain ⟨cd, hcd1, hcd2⟩ := Tryd.confDesc
 have HM := hide hm
 have hA1 := fun X => around_any fr 6 X hfr (by decide)
 have hA2 := fun X => around_any tgt 6 X htg (by decide)
 have hA3 := fun X => around_any depth 61 X hdp (by decide)
 have hb1 := around_bd fr 6 (by decide)
 have hb2 := around_bd tgt 6 (by decide)
 have hb3 := around_bd depth 61 (by decide)
 generalize around fr 6 = a at hA1 hb1
 generalize around tgt 6 = b at hA2 hb2
 obtain ⟨d, hd⟩ : ∃ d : Nat, around depth 61 = d := ⟨(around depth 61).toNat, by omega⟩
 rw [hd] at hA3 hb3
 have HA1 := hide hA1
 have HA2 := hide hA2
 have HA3 := hide hA3
 have HAB := hide (show I64 a ∧ I64 b ∧ d ≤ 60 from by unfold I64; omega)
 have HME := hide (mesh_any L how v w hs hL hh)
 clear hm hA1 hA2 hA3 hb1 hb2 hb3 hd hs hL
 go_enter Tryd.func4, Tryd.ntmps4
 go_wp2_with fail
 refine HME.out.mono ?_
 rintro e W1 ⟨c, c0, rfl, hc0, hc, ho, E1⟩
 have hgc := mesh_gc hc0 hc
 clear hc0 hc HME
 have hth := OwnC.there (Z := #[.slice none 0 0, .slice none 0 0, .slice none 0 0, .slice none 0 0, .int .i64 0, .int .i64 0, .int .i64 0, .int .i64 0, .int .i64 0, .int .i64 0, .int .i64 0, .int .i64 0, .int .i64 0, .int .i64 0, .int .i64 0, .int .i64 0, .int .i64 0, .int .i64 0, .int .i64 0, .int .i64 0]) rfl W1
 go_upto_region 2 with (refine wpList_store_mid rfl 60 (.tmp 11) (.tmp 22) rfl W1.heap.size 0 (encC c).toArray rfl rfl hth Tryd.confSize (all_oneCell_toArray (encC_oneG ho)) ?_)
 obtain ⟨h2, E2⟩ := OwnC.store (Z := #[.slice none 0 0, .slice none 0 0, .slice none 0 0, .slice none 0 0, .int .i64 0, .int .i64 0, .int .i64 0, .int .i64 0, .int .i64 0, .int .i64 0, .int .i64 0, .int .i64 0, .int .i64 0, .int .i64 0, .int .i64 0, .int .i64 0, .int .i64 0, .int .i64 0, .int .i64 0, .int .i64 0]) rfl ho
 show Code.wp _ _ _ _ ((W1.alloc (.cells #[.slice none 0 0, .slice none 0 0, .slice none 0 0, .slice none 0 0, .int .i64 0, .int .i64 0, .int .i64 0, .int .i64 0, .int .i64 0, .int .i64 0, .int .i64 0, .int .i64 0, .int .i64 0, .int .i64 0, .int .i64 0, .int .i64 0, .int .i64 0, .int .i64 0, .int .i64 0, .int .i64 0] 60)).setCells W1.heap.size 0 (encC c))
 generalize (W1.alloc (.cells #[.slice none 0 0, .slice none 0 0, .slice none 0 0, .slice none 0 0, .int .i64 0, .int .i64 0, .int .i64 0, .int .i64 0, .int .i64 0, .int .i64 0, .int .i64 0, .int .i64 0, .int .i64 0, .int .i64 0, .int .i64 0, .int .i64 0, .int .i64 0, .int .i64 0, .int .i64 0, .int .i64 0] 60)).setCells W1.heap.size 0 (encC c) = W2 at h2 E2 ⊢
 obtain ⟨b1, hb1⟩ : ∃ b, W1.heap.size = b := ⟨_, rfl⟩
 rw [hb1] at h2 ⊢
 have HX2 := hide (E1.trans E2)
 have HG := hide (h2.gc (HM.out.ext HX2.out) hgc.1 hgc.2)
 have HBX := hide (fun X (hX : Ext W2 X) => h2.box.ext hX)
 have hkt := fun (l : List Int) (hl : l ∈ kidsG c a) (x : Int) (hx : x ∈ l) => there_ten hgc.1 (kids_there (chk_lead hgc.1) hl hx)
 obtain ⟨f, hf⟩ : ∃ f, lvl (kidsG c) b d = f := ⟨_, rfl⟩
 have hfb : ∀ x, 0 ≤ f x ∧ f x ≤ mostN := fun x => by rw [← hf]; exact lvl_bd _ _ _ x
 have hnx : lvl (kidsG c) b (d + 1) a = stpN (kidsG c a) (lvl (kidsG c) b 0 a) f := by rw [← hf]; rfl
 have hle : f a ≤ stpN (kidsG c a) (lvl (kidsG c) b 0 a) f := by rw [← hnx, ← hf]; exact lvl_mono _ _ _ _
 have hob := lvl_bd (kidsG c) b 0 a
 have hG0 := gwalks_any c a b 0 W2 HG.out HAB.out.1 HAB.out.2.1 (by decide)
 have hGN : ∀ X, Ext W2 X → Calls Tryd.prog 18 #[.agg (encC c).toArray, .int .i64 a, .int .i64 b, .int .i64 ((d + 1 : Nat) : Int)] X fun e w' => e = .returned (.int .i64 (stpN (kidsG c a) (lvl (kidsG c) b 0 a) f)) ∧ Ext X w' := fun X hX => by
  rw [← hnx]
  exact gwalks_any c a b (d + 1) X (HG.out.ext hX) HAB.out.1 HAB.out.2.1 (by have := HAB.out.2.2; omega)
 have hGD : ∀ X, Ext W2 X → ∀ x, I64 x → Calls Tryd.prog 18 #[.agg (encC c).toArray, .int .i64 x, .int .i64 b, .int .i64 (d : Int)] X fun e w' => e = .returned (.int .i64 (f x)) ∧ Ext X w' := fun X hX x hx => by
  rw [← hf]
  exact gwalks_any c x b d X (HG.out.ext hX) hx HAB.out.2.1 (by have := HAB.out.2.2; omega)
 have hKD := fun X (hX : Ext W2 X) => kids_any c a X (HG.out.ext hX)
 generalize lvl (kidsG c) b 0 a = own at hnx hle hob hG0 hGN
 obtain ⟨Ks, hKs⟩ : ∃ Ks, kidsG c a = Ks := ⟨_, rfl⟩
 simp only [hKs] at hkt hle hGN hKD
 have hKl : Ks.length ≤ 1000 := by rw [← hKs, kidsG_eq, List.length_append, List.length_map]; have h1 := find_kids hgc.1 a; have h2 := lastG_len hgc.1 (findS c.S a).K; omega
 have HKT := hide hkt
 have HFB := hide hfb
 have HLE := hide hle
 have HOB := hide hob
 have HG0 := hide hG0
 have HGN := hide hGN
 have HGW := hide hGD
 have HKD := hide hKD
 have HKL := hide hKl
 clear h2 E1 E2 ho hth hgc hb1 hkt hfb hnx hle hob hG0 hGN hGD hKD hf hKs hKl
 go_wp2_with fail
 refine (HA1.out W2).mono ?_
 rintro e X1 ⟨rfl, rfl⟩
 go_wp2_with fail
 refine (HA2.out W2).mono ?_
 rintro e X2 ⟨rfl, rfl⟩
 go_wp2_with fail
 refine (HA3.out W2).mono ?_
 rintro e X3 ⟨rfl, rfl⟩
 have hbx := HBX.out W2 (Below.refl _ _)
 go_wp2_with (first | (refine BigFrame.wpList_want (by rfl) fun K hK => ?_; refine wp_load_mid 60 (.tmp 11) rfl b1 0 rfl (encC c) cd hbx.range hcd1 hcd2 Tryd.confSize ?_; refine hK _ _ ?_; simp only [Act.put]))
 refine HG0.out.mono ?_
 rintro e W4 ⟨rfl, E4⟩
 have hbx := HBX.out W4 E4
 have HE4 := hide E4
 clear E4 HG0
 go_wp2_with (first | (refine BigFrame.wpList_want (by rfl) fun K hK => ?_; refine wp_load_mid 60 (.tmp 11) rfl b1 0 rfl (encC c) cd hbx.range hcd1 hcd2 Tryd.confSize ?_; refine hK _ _ ?_; simp only [Act.put]))
 refine (HKD.out W4 HE4.out).mono ?_
 rintro e W5 ⟨v5, rfl, hkv, E5⟩
 have HE5 := hide (HE4.out.trans E5)
 obtain ⟨vs, hrow, hri⟩ := hkv
 obtain ⟨ka, kc, rfl⟩ := owns_shape hrow
 have HROW5 := hide hrow
 have HRI := hide hri
 clear E5 hrow hri hbx HKD HE4
 go_wp2_with fail
 go_loopw [15, 17] (fun v15 v17 wr => ∃ k : Nat, k ≤ Ks.length ∧ v17 = .int .i64 k ∧ v15 = .int .i64 (stpN (Ks.take k) own f) ∧ Ext W5 wr) (fun _ k _ => Ks.length - (intOf k).toNat)
 case atStart => exact ⟨0, Nat.zero_le _, rfl, rfl, Below.refl _ _⟩
 case round =>
  obtain ⟨k, hk, rfl, rfl, hext⟩ := hrel
  have HEK := hide hext
  clear hext
  by_cases hlt : k < Ks.length
  ·have hltz : (k : Int) < Ks.length := by omega
   have hwk : IntKind.i64.wrap ((k : Int) + 1) = ((k + 1 : Nat) : Int) := by have := HKL.out; rw [IntKind.wrap_i64]; omega
   obtain ⟨gk, cap, hgv, -⟩ := owns_block HROW5.out (by omega)
   injection hgv with h1 h2 h3
   subst h1
   obtain ⟨rv, hrv, hri⟩ := HRI.out.at k hlt
   have hcell := (owns_ext HROW5.out HEK.out).cells (g := gk) rfl k rv hrv
   rw [add_cell] at hcell
   have hmem : Ks[k] ∈ Ks := List.getElem_mem hlt
   have hsn := stp_snoc Ks own f k hlt
   have hbk := stp_bd (Ks.take k) own f HOB.out
   generalize stpN (Ks.take k) own f = n at hsn hbk ⊢
   generalize Ks[k] = l at hri hmem hsn
   obtain ⟨hll, ra, rc, rfl⟩ := hri.shape
   have HROW := hide (fun X (hX : Ext wr X) => cell_ext hX hcell)
   have HRL := hide (fun X (hX : Ext W5 X) => hri.ext hX)
   have HSN := hide hsn
   have HBK := hide hbk
   have HMEM := hide (HKT.out l hmem)
   have HLL := hide hll
   clear hcell hri hmem hsn hbk hll hrv h2 h3
   obtain ⟨wk, rfl⟩ : ∃ x : World, x = wr := ⟨_, rfl⟩
   go_wp2_with fail
   go_loopw [18, 19] (fun v18 v19 wr2 => ∃ j : Nat, j ≤ l.length ∧ v19 = .int .i64 j ∧ v18 = .int .i64 (great (l.take j) f) ∧ Ext wk wr2) (fun _ j _ => l.length - (intOf j).toNat)
   case atStart => exact ⟨0, Nat.zero_le _, rfl, rfl, Below.refl _ _⟩
   case round =>
    obtain ⟨j, hj, rfl, rfl, hext⟩ := hrel
    have HEJ := hide hext
    have HE := hide (HE5.out.trans (HEK.out.trans hext))
    clear hext
    have hcur := HROW.out wr HEJ.out
    by_cases hltj : j < l.length
    ·have hltjz : (j : Int) < l.length := by omega
     have hwj : IntKind.i64.wrap ((j : Int) + 1) = ((j + 1 : Nat) : Int) := by have := HLL.out; rw [IntKind.wrap_i64]; omega
     obtain ⟨rb, ro, rfl, hrb, hq⟩ := ints_row (HRL.out wk HEK.out) j hltj
     have hxm := HMEM.out l[j] (List.getElem_mem hltj)
     have hsj := great_snoc l f j hltj
     generalize great (l.take j) f = m at hsj ⊢
     generalize l[j] = x at hxm hsj hq
     have HXI := hide (show I64 x by unfold I64; omega)
     have HSNJ := hide hsj
     have HCEL := hide (fun X (hX : Ext wk X) => cell_ext hX hq)
     clear hxm hsj hq hrb
     go_wp2_with fail
     refine wp_region_ro 88 [18, 51, 52, 53, 54, 55, 56, 57, 58, 59, 60, 61, 62, 63] (fun w' => Ext W2 w' ∧ Ext wk w') (fun (t : Nat) (wI : World) (v : Value) => match t with | 18 => v = (.int .i64 (max m (f x))) | 51 => v = (.int .i64 m) | 52 => v = (.agg (encC c).toArray) | 53 => v = (.slice (some ⟨gk, 0, none⟩) Ks.length kc) | 54 => v = (.int .i64 (k : Int)) | 55 => v = (.pointer (some ⟨gk, k, none⟩)) | 56 => v = (.slice (some ⟨rb, ro, none⟩) l.length rc) | 57 => v = (.int .i64 (j : Int)) | 58 => v = (.pointer (some ⟨rb, ro + j, none⟩)) | 59 => v = (.int .i64 x) | 60 => v = (.int .i64 b) | 61 => v = (.int .i64 (d : Int)) | 62 => v = (.int .i64 (f x)) | 63 => v = (.int .i64 (max m (f x))) | _ => True) (by kernel_rfl) rfl (by kernel_rfl) (by kernel_rfl) (by kernel_rfl) ?_ ?_ ?_ ?_ ?_
     ·intro t w' w'' v hR hv
      exact hv
     ·intro w' w'' h e
      exact ⟨h.1.trans e, h.2.trans e⟩
     ·exact ⟨HE.out.drew, HEJ.out.drew⟩
     ·intro i o ho X w' hph hI hF K hK
      have hin : i < 14 := (Array.getElem?_eq_some_iff.1 ho).1
      have hi : i = 0 ∨ i = 1 ∨ i = 2 ∨ i = 3 ∨ i = 4 ∨ i = 5 ∨ i = 6 ∨ i = 7 ∨ i = 8 ∨ i = 9 ∨ i = 10 ∨ i = 11 ∨ i = 12 ∨ i = 13 := by omega
      rcases hi with rfl | rfl | rfl | rfl | rfl | rfl | rfl | rfl | rfl | rfl | rfl | rfl | rfl | rfl
      ·obtain rfl := Option.some.inj ho
       have e18 : X 18 = (.int .i64 m) := hF 18 (by kernel_rfl)
       unfold wpOp
       simp only [ho]
       rw [if_pos (by rfl)]
       left
       rw [frame88]
       go_simp
       refine metK (hK.out ((.int .i64 m)) _ (Below.refl _ _) (fun d hd => by cases hd; exact rfl)) ?_
       simp [frame88, Act.put, *]
      ·obtain rfl := Option.some.inj ho
       have e11 : X 11 = (.pointer (some ⟨b1, 0, none⟩)) := hF 11 (by kernel_rfl)
       have hx : Ext W2 w' := hph.1
       unfold wpOp
       simp only [ho]
       rw [if_pos (by rfl)]
       left
       rw [frame88]
       refine wp_load_mid 60 (.tmp 11) rfl b1 0 e11 (encC c) cd (HBX.out w' hx).range hcd1 hcd2 Tryd.confSize (metK (hK.out (.agg (encC c).toArray) _ (Below.refl _ _) (fun d hd => by cases hd; exact rfl)) ?_)
       simp [frame88, Act.put, *]
      ·obtain rfl := Option.some.inj ho
       have e16 : X 16 = (.slice (some ⟨gk, 0, none⟩) Ks.length kc) := hF 16 (by kernel_rfl)
       unfold wpOp
       simp only [ho]
       rw [if_pos (by rfl)]
       left
       rw [frame88]
       go_simp
       refine metK (hK.out ((.slice (some ⟨gk, 0, none⟩) Ks.length kc)) _ (Below.refl _ _) (fun d hd => by cases hd; exact rfl)) ?_
       simp [frame88, Act.put, *]
      ·obtain rfl := Option.some.inj ho
       have e17 : X 17 = (.int .i64 (k : Int)) := hF 17 (by kernel_rfl)
       unfold wpOp
       simp only [ho]
       rw [if_pos (by rfl)]
       left
       rw [frame88]
       go_simp
       refine metK (hK.out ((.int .i64 (k : Int))) _ (Below.refl _ _) (fun d hd => by cases hd; exact rfl)) ?_
       simp [frame88, Act.put, *]
      ·obtain rfl := Option.some.inj ho
       have e53 : X 53 = _ := hI 53 (by kernel_rfl)
       have e54 : X 54 = _ := hI 54 (by kernel_rfl)
       unfold wpOp
       simp only [ho]
       rw [if_pos (by rfl)]
       left
       rw [frame88]
       go_simp
       refine metK (hK.out ((.pointer (some ⟨gk, k, none⟩))) _ (Below.refl _ _) (fun d hd => by cases hd; exact rfl)) ?_
       simp [frame88, Act.put, *]
      ·obtain rfl := Option.some.inj ho
       have e55 : X 55 = _ := hI 55 (by kernel_rfl)
       have q := HROW.out w' hph.2
       unfold wpOp
       simp only [ho]
       rw [if_pos (by rfl)]
       left
       rw [frame88]
       go_simp
       refine metK (hK.out ((.slice (some ⟨rb, ro, none⟩) l.length rc)) _ (Below.refl _ _) (fun d hd => by cases hd; exact rfl)) ?_
       simp [frame88, Act.put, *]
      ·obtain rfl := Option.some.inj ho
       have e19 : X 19 = (.int .i64 (j : Int)) := hF 19 (by kernel_rfl)
       unfold wpOp
       simp only [ho]
       rw [if_pos (by rfl)]
       left
       rw [frame88]
       go_simp
       refine metK (hK.out ((.int .i64 (j : Int))) _ (Below.refl _ _) (fun d hd => by cases hd; exact rfl)) ?_
       simp [frame88, Act.put, *]
      ·obtain rfl := Option.some.inj ho
       have e56 : X 56 = _ := hI 56 (by kernel_rfl)
       have e57 : X 57 = _ := hI 57 (by kernel_rfl)
       unfold wpOp
       simp only [ho]
       rw [if_pos (by rfl)]
       left
       rw [frame88]
       go_simp
       refine metK (hK.out ((.pointer (some ⟨rb, ro + j, none⟩))) _ (Below.refl _ _) (fun d hd => by cases hd; exact rfl)) ?_
       simp [frame88, Act.put, *]
      ·obtain rfl := Option.some.inj ho
       have e58 : X 58 = _ := hI 58 (by kernel_rfl)
       have q := HCEL.out w' hph.2
       unfold wpOp
       simp only [ho]
       rw [if_pos (by rfl)]
       left
       rw [frame88]
       go_simp
       refine metK (hK.out ((.int .i64 x)) _ (Below.refl _ _) (fun d hd => by cases hd; exact rfl)) ?_
       simp [frame88, Act.put, *]
      ·obtain rfl := Option.some.inj ho
       have e13 : X 13 = (.int .i64 b) := hF 13 (by kernel_rfl)
       unfold wpOp
       simp only [ho]
       rw [if_pos (by rfl)]
       left
       rw [frame88]
       go_simp
       refine metK (hK.out ((.int .i64 b)) _ (Below.refl _ _) (fun d hd => by cases hd; exact rfl)) ?_
       simp [frame88, Act.put, *]
      ·obtain rfl := Option.some.inj ho
       have e14 : X 14 = (.int .i64 (d : Int)) := hF 14 (by kernel_rfl)
       unfold wpOp
       simp only [ho]
       rw [if_pos (by rfl)]
       left
       rw [frame88]
       go_simp
       refine metK (hK.out ((.int .i64 (d : Int))) _ (Below.refl _ _) (fun d hd => by cases hd; exact rfl)) ?_
       simp [frame88, Act.put, *]
      ·obtain rfl := Option.some.inj ho
       have e52 : X 52 = _ := hI 52 (by kernel_rfl)
       have e59 : X 59 = _ := hI 59 (by kernel_rfl)
       have e60 : X 60 = _ := hI 60 (by kernel_rfl)
       have e61 : X 61 = _ := hI 61 (by kernel_rfl)
       have hx : Ext W2 w' := hph.1
       unfold wpOp
       simp only [ho]
       rw [if_pos (by rfl)]
       left
       rw [frame88]
       go_simp
       refine (HGW.out w' hx x HXI.out).mono ?_
       rintro e w9 ⟨rfl, E9⟩
       refine metK (hK.out (.int .i64 (f x)) w9 E9 (fun d hd => by cases hd; exact rfl)) ?_
       simp [frame88, Act.put, *]
      ·obtain rfl := Option.some.inj ho
       have e51 : X 51 = _ := hI 51 (by kernel_rfl)
       have e62 : X 62 = _ := hI 62 (by kernel_rfl)
       unfold wpOp
       simp only [ho]
       rw [if_pos (by rfl)]
       left
       rw [frame88]
       go_simp
       refine metK (hK.out ((.int .i64 (max m (f x)))) _ (Below.refl _ _) (fun d hd => by cases hd; exact rfl)) ?_
       simp [frame88, Act.put, *]
      ·obtain rfl := Option.some.inj ho
       have e63 : X 63 = _ := hI 63 (by kernel_rfl)
       unfold wpOp
       simp only [ho]
       rw [if_pos (by rfl)]
       left
       rw [frame88]
       go_simp
       refine metK (hK.out ((.int .i64 (max m (f x)))) _ (Below.refl _ _) (fun d hd => by cases hd; exact rfl)) ?_
       simp [frame88, Act.put, *]
     ·intro X w' hph hI
      have e18 : X 18 = _ := hI 18 (by kernel_rfl)
      have e51 : X 51 = _ := hI 51 (by kernel_rfl)
      have e52 : X 52 = _ := hI 52 (by kernel_rfl)
      have e53 : X 53 = _ := hI 53 (by kernel_rfl)
      have e54 : X 54 = _ := hI 54 (by kernel_rfl)
      have e55 : X 55 = _ := hI 55 (by kernel_rfl)
      have e56 : X 56 = _ := hI 56 (by kernel_rfl)
      have e57 : X 57 = _ := hI 57 (by kernel_rfl)
      have e58 : X 58 = _ := hI 58 (by kernel_rfl)
      have e59 : X 59 = _ := hI 59 (by kernel_rfl)
      have e60 : X 60 = _ := hI 60 (by kernel_rfl)
      have e61 : X 61 = _ := hI 61 (by kernel_rfl)
      have e62 : X 62 = _ := hI 62 (by kernel_rfl)
      have e63 : X 63 = _ := hI 63 (by kernel_rfl)
      clear hI
      simp only [overF, List.foldl_cons, List.foldl_nil, List.setIfInBounds_toArray, List.set_cons_succ, List.set_cons_zero, e18, e51, e52, e53, e54, e55, e56, e57, e58, e59, e60, e61, e62, e63]
      have hx9 := hph
      clear hph e18 e51 e52 e53 e54 e55 e56 e57 e58 e59 e60 e61 e62 e63
      generalize w' = W9 at *
      have HE9 := hide hx9.2
      clear hx9
      go_wp2
      go_roundw
      case rel => exact ⟨j + 1, hltj, by go_num, by rw [HSNJ.out], HE9.out⟩
      case measure => simp [intOf] <;> omega
    ·obtain rfl : j = l.length := by omega
     have hltjz : ¬ (l.length : Int) < l.length := by omega
     rw [List.take_length]
     have hgb : 0 ≤ great l f ∧ great l f ≤ mostN := ⟨great_nn _ _, great_le_of _ 0 (by decide) fun x _ => (HFB.out x).2⟩
     have hss := HSN.out
     generalize great l f = m at hss hgb ⊢
     have HSS := hide hss
     have hxa : Ext wr (wr.alloc (.cells #[.int .i64 n, .int .i64 m] 3)) := (Below.refl _ _).alloc (Nat.le_refl _) _
     have hsu := fsum_any [n, m] _ _ (ints_lit2 wr n m) (fun x hx => by
      rcases List.mem_cons.1 hx with rfl | hx
      ·exact HBK.out
      ·rw [List.mem_singleton.1 hx]
       exact hgb)
     rw [sumL_two HBK.out, ← hss] at hsu
     have HSU := hide hsu
     have HE7 := hide (HEK.out.trans (HEJ.out.trans hxa))
     clear hss hgb hsu hxa HSN
     go_wp2_with fail
     clear hcur hltjz
     go_wp2_with fail
     refine HSU.out.mono ?_
     rintro e w6 ⟨rfl, hw6⟩
     subst hw6
     go_wp2
     go_roundw
     case rel => exact ⟨k + 1, hlt, by go_num, rfl, HE7.out⟩
     case measure => simp [intOf] <;> omega
  ·obtain rfl : k = Ks.length := by omega
   have hltz : ¬ (Ks.length : Int) < Ks.length := by omega
   rw [List.take_length]
   have hnl := HLE.out
   have hgn := HGN.out
   generalize stpN Ks own f = N at hnl hgn ⊢
   have HGN2 := hide hgn
   have hwd : IntKind.i64.wrap ((d : Int) + 1) = ((d + 1 : Nat) : Int) := by have := HAB.out.2.2; rw [IntKind.wrap_i64]; omega
   have HE6 := hide (HE5.out.trans HEK.out)
   have hbx := HBX.out wr HE6.out
   clear hgn
   go_wp2_with (first | (refine BigFrame.wpList_want (by rfl) fun K hK => ?_; refine wp_load_mid 60 (.tmp 11) rfl b1 0 rfl (encC c) cd hbx.range hcd1 hcd2 Tryd.confSize ?_; refine hK _ _ ?_; simp only [Act.put]))
   refine (HGN2.out wr HE6.out).mono ?_
   rintro e w7 ⟨rfl, E7⟩
   have HE7 := hide (HE6.out.trans E7)
   have hbx := HBX.out w7 HE7.out
   clear E7
   go_wp2_with (first | (refine BigFrame.wpList_want (by rfl) fun K hK => ?_; refine wp_load_mid 60 (.tmp 11) rfl b1 0 rfl (encC c) cd hbx.range hcd1 hcd2 Tryd.confSize ?_; refine hK _ _ ?_; simp only [Act.put]))
   refine (HGW.out w7 HE7.out a HAB.out.1).mono ?_
   rintro e w8 ⟨rfl, E8⟩
   have HE8 := hide (HE7.out.trans E8)
   clear E8 hbx
   go_wp2_with fail
   refine (lives33_any w8 (HM.out.ext (HX2.out.trans HE8.out))).mono ?_
   rintro e w9 ⟨rfl, E9⟩
   have HZ := hide (HX2.out.trans (HE8.out.trans E9))
   clear E9
   go_wp2_with fail
   go_ret
   exact ⟨rfl, HZ.out⟩
end Go.Proofs.YtceaeiaoanhlnaaDoor
