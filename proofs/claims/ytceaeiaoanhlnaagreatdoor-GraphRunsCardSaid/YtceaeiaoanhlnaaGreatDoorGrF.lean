import Derived.Test.YtceaeiaoanhlnaaGreatDoorGrD
namespace Go.Proofs.YtceaeiaoanhlnaaGreatDoor
open Go.ChangeShapes Go.WideShapes Go.ChangeAt Go.RowKit Go.Lib Go.Shelf
/-! ## plain -/
def drawN (D : List Int) (u : Nat) : Int := if h : 0 < D.length then D[u % D.length]'(Nat.mod_lt _ h) else (u : Int)
def pickN (D : List Int) (l : List Int) (u : Nat) : Int := l.getD (around (drawN D u) l.length).toNat 0
def runGo (f : Int → Nat → Nat × Nat) (D : List Int) : List (List Int) → Nat → Nat → Nat × Nat
 | [], n, u => (n, u)
 | l :: K, n, u => if u < 2000 then (if l.length = 0 then runGo f D K n u else runGo f D K (n + (f (pickN D l u) (u + 1)).1) (f (pickN D l u) (u + 1)).2) else (n, u)
def selfM (a b : Int) : Nat := if a = b then 1 else 0
def runN (K : Int → List (List Int)) (tgt : Int) (D : List Int) : Nat → Int → Nat → Nat × Nat
 | 0, fr, u => (selfM fr tgt, u)
 | d + 1, fr, u => runGo (runN K tgt D d) D (K fr) (selfM fr tgt) u
theorem selfM_eq (a b : Int) : ((selfM a b : Nat) : Int) = selfN a b := by
 unfold selfM selfN
 split <;> rfl
theorem runGo_bd {f : Int → Nat → Nat × Nat} {D : List Int} (hf : ∀ x u, u ≤ 2000 → (f x u).1 + u ≤ (f x u).2 + 1 ∧ u ≤ (f x u).2 ∧ (f x u).2 ≤ 2000) : ∀ (K : List (List Int)) (n u : Nat), u ≤ 2000 → (runGo f D K n u).1 + u ≤ (runGo f D K n u).2 + n ∧ u ≤ (runGo f D K n u).2 ∧ (runGo f D K n u).2 ≤ 2000
 | [], n, u, h => by
  show n + u ≤ u + n ∧ u ≤ u ∧ u ≤ 2000
  omega
 | l :: K, n, u, h => by
  unfold runGo
  split
  ·split
   ·exact runGo_bd (D := D) hf K n u h
   ·have h1 := hf (pickN D l u) (u + 1) (by omega)
    have h2 := runGo_bd (D := D) hf K (n + (f (pickN D l u) (u + 1)).1) (f (pickN D l u) (u + 1)).2 h1.2.2
    omega
  ·show n + u ≤ u + n ∧ u ≤ u ∧ u ≤ 2000
   omega
theorem runN_bd (K : Int → List (List Int)) (tgt : Int) (D : List Int) : ∀ (d : Nat) (x : Int) (u : Nat), u ≤ 2000 → (runN K tgt D d x u).1 + u ≤ (runN K tgt D d x u).2 + 1 ∧ u ≤ (runN K tgt D d x u).2 ∧ (runN K tgt D d x u).2 ≤ 2000
 | 0, x, u, h => by
  have : selfM x tgt ≤ 1 := by unfold selfM; split <;> omega
  show selfM x tgt + u ≤ u + 1 ∧ u ≤ u ∧ u ≤ 2000
  omega
 | d + 1, x, u, h => by
  have : selfM x tgt ≤ 1 := by unfold selfM; split <;> omega
  have h1 := runGo_bd (D := D) (fun x u hu => runN_bd K tgt D d x u hu) (K x) (selfM x tgt) u h
  show (runGo (runN K tgt D d) D (K x) (selfM x tgt) u).1 + u ≤ (runGo (runN K tgt D d) D (K x) (selfM x tgt) u).2 + 1 ∧ u ≤ (runGo (runN K tgt D d) D (K x) (selfM x tgt) u).2 ∧ (runGo (runN K tgt D d) D (K x) (selfM x tgt) u).2 ≤ 2000
  omega
theorem pickN_mem (D l : List Int) (u : Nat) (h : ¬ l.length = 0) : pickN D l u ∈ l := by
 have h1 := around_bd (drawN D u) l.length (by omega)
 have h2 : (around (drawN D u) l.length).toNat < l.length := by omega
 show (l[(around (drawN D u) l.length).toNat]?).getD 0 ∈ l
 rw [List.getElem?_eq_getElem h2]
 exact List.getElem_mem h2
theorem pickN_at (D l : List Int) (u j : Nat) (hj : around (drawN D u) l.length = (j : Int)) (hjl : j < l.length) : pickN D l u = l[j] := by
 show (l[(around (drawN D u) l.length).toNat]?).getD 0 = l[j]
 rw [hj, Int.toNat_natCast, List.getElem?_eq_getElem hjl]
 rfl
theorem runGo_le {f : Int → Nat → Nat × Nat} {g : Int → Int} {D : List Int} (hf : ∀ x u, u ≤ 2000 → (f x u).1 + u ≤ (f x u).2 + 1 ∧ u ≤ (f x u).2 ∧ (f x u).2 ≤ 2000) (hg : ∀ x u, u ≤ 2000 → (((f x u).1 : Nat) : Int) ≤ g x) : ∀ (K : List (List Int)) (n u : Nat), u ≤ 2000 → n ≤ u + 1 → (((runGo f D K n u).1 : Nat) : Int) ≤ stpN K n g
 | [], n, u, _, _ => Int.le_refl _
 | l :: K, n, u, h, hn => by
  have hmo : mostN = 4611686018427387903 := rfl
  unfold runGo
  split
  ·split
   ·rename_i hl
    have hl' : l = [] := List.eq_nil_of_length_eq_zero hl
    subst hl'
    have h1 := runGo_le (D := D) hf hg K n u h hn
    show _ ≤ stpN K (sumM n (great [] g)) g
    rw [show sumM n (great [] g) = (n : Int) by show min ((n : Int) + 0) mostN = n; omega]
    exact h1
   ·rename_i hl
    have h1 := hf (pickN D l u) (u + 1) (by omega)
    have h2 := hg (pickN D l u) (u + 1) (by omega)
    have h3 : g (pickN D l u) ≤ great l g := great_mem l 0 _ (pickN_mem D l u hl)
    have h4 := runGo_le (D := D) hf hg K (n + (f (pickN D l u) (u + 1)).1) (f (pickN D l u) (u + 1)).2 h1.2.2 (by omega)
    refine Int.le_trans h4 ?_
    show stpN K _ g ≤ stpN K (sumM n (great l g)) g
    refine step_mono K ?_ fun x => Int.le_refl _
    unfold sumM
    omega
  ·exact step_ge g _ _ (by omega)
theorem runN_le (K : Int → List (List Int)) (tgt : Int) (D : List Int) : ∀ (d : Nat) (x : Int) (u : Nat), u ≤ 2000 → (((runN K tgt D d x u).1 : Nat) : Int) ≤ lvl K tgt d x
 | 0, x, u, h => by
  show ((selfM x tgt : Nat) : Int) ≤ selfN x tgt
  rw [selfM_eq]
  exact Int.le_refl _
 | d + 1, x, u, h => by
  have h1 := runGo_le (D := D) (fun x u hu => runN_bd K tgt D d x u hu) (fun x u hu => runN_le K tgt D d x u hu) (K x) (selfM x tgt) u h (by unfold selfM; split <;> omega)
  show (((runGo (runN K tgt D d) D (K x) (selfM x tgt) u).1 : Nat) : Int) ≤ stpN (K x) (selfN x tgt) (lvl K tgt d)
  rw [← selfM_eq]
  exact h1
theorem runGo_next {f : Int → Nat → Nat × Nat} {D : List Int} {Ks : List (List Int)} {i : Nat} (hi : i < Ks.length) (n u : Nat) : runGo f D (Ks.drop i) n u = if u < 2000 then (if Ks[i].length = 0 then runGo f D (Ks.drop (i + 1)) n u else runGo f D (Ks.drop (i + 1)) (n + (f (pickN D Ks[i] u) (u + 1)).1) (f (pickN D Ks[i] u) (u + 1)).2) else (n, u) := by
 rw [List.drop_eq_getElem_cons hi]
 rfl
/-! ## the walk -/
def RunP (c : ConfD) (tgt : Int) (D : List Int) (d : Nat) (fr : Int) (u : Nat) (w : World) (e : Ending) (w' : World) : Prop :=
 e = .returned (.tuple #[.int .i64 (((runN (kidsG c) tgt D d fr u).1 : Nat) : Int), .int .i64 (((runN (kidsG c) tgt D d fr u).2 : Nat) : Int)]) ∧ Ext w w'
theorem frame87 (x : Nat → Value) : frameOf 87 x = #[x 0, x 1, x 2, x 3, x 4, x 5, x 6, x 7, x 8, x 9, x 10, x 11, x 12, x 13, x 14, x 15, x 16, x 17, x 18, x 19, x 20, x 21, x 22, x 23, x 24, x 25, x 26, x 27, x 28, x 29, x 30, x 31, x 32, x 33, x 34, x 35, x 36, x 37, x 38, x 39, x 40, x 41, x 42, x 43, x 44, x 45, x 46, x 47, x 48, x 49, x 50, x 51, x 52, x 53, x 54, x 55, x 56, x 57, x 58, x 59, x 60, x 61, x 62, x 63, x 64, x 65, x 66, x 67, x 68, x 69, x 70, x 71, x 72, x 73, x 74, x 75, x 76, x 77, x 78, x 79, x 80, x 81, x 82, x 83, x 84, x 85, x 86] := rfl
set_option maxRecDepth 100000 in
set_option maxHeartbeats 16000000 in
theorem run_step (c : ConfD) (tgt : Int) (D : List Int) (hD : ∀ x ∈ D, I64 x) (d0 : Nat) (hd0 : d0 ≤ 100)
  (ih : ∀ d, d0 = d + 1 → ∀ (fr : Int) (u : Nat) (dv : Value) (w : World), GC w c → Ints w dv D → u ≤ 2000 → Calls Tryz.prog 22 #[.agg (encC c).toArray, .int .i64 fr, .int .i64 tgt, .int .i64 (d : Int), dv, .int .i64 (u : Int)] w (RunP c tgt D d fr u w))
  (fr : Int) (us : Nat) (dv : Value) (w : World) (h : GC w c) (hs : Ints w dv D) (hu : us ≤ 2000) :
  Calls Tryz.prog 22 #[.agg (encC c).toArray, .int .i64 fr, .int .i64 tgt, .int .i64 (d0 : Int), dv, .int .i64 (us : Int)] w (RunP c tgt D d0 fr us w) := by
 obtain ⟨cd, hcd1, hcd2⟩ := Tryz.confDesc
 obtain ⟨hDl, da, dc, rfl⟩ := hs.shape
 have HDL := hide hDl
 have hx : Ext w (w.alloc (.cells (encC c).toArray 30)) := (Below.refl _ _).alloc (Nat.le_refl _) _
 have hb1 : BoxC (w.alloc (.cells (encC c).toArray 30)) w.heap.size c := heap_alloc_new w (.cells (encC c).toArray 30)
 have hkk := fun X (hX : Ext w X) => rkids_any c fr X (h.ext hX)
 have hih := fun (d : Nat) (hd : d0 = d + 1) (x : Int) (u : Nat) X (hX : Ext w X) (hu : u ≤ 2000) => ih d hd x u _ X (h.ext hX) (hs.ext hX) hu
 have hkl : (kidsG c fr).length ≤ 1000 := by
  rw [kidsG_eq, List.length_append, List.length_map]
  have h1 := find_kids h.chk fr
  have h2 := lastG_len h.chk (findS c.S fr).K
  omega
 have hint := fun X (hX : Ext w X) => hs.ext hX
 have hself : selfM fr tgt ≤ 1 := by unfold selfM; split <;> omega
 obtain ⟨z, hz⟩ : ∃ z : Int, (d0 : Int) = z := ⟨_, rfl⟩
 have hzb : 0 ≤ z ∧ z ≤ 100 := by omega
 unfold RunP at hih ⊢
 rw [hz]
 obtain ⟨R1, hR1⟩ : ∃ q, (runN (kidsG c) tgt D d0 fr us).1 = q := ⟨_, rfl⟩
 obtain ⟨R2, hR2⟩ : ∃ q, (runN (kidsG c) tgt D d0 fr us).2 = q := ⟨_, rfl⟩
 have hRR : runN (kidsG c) tgt D d0 fr us = (R1, R2) := by rw [← hR1, ← hR2]
 rw [hR1, hR2]
 have HRR := hide hRR
 have HIH0 := hide hih
 have HKK := hide hkk
 have HIN := hide hint
 have HZ0 := hide hz
 have HZB := hide hzb
 have HSF := hide hself
 have HKL := hide hkl
 have HUS := hide hu
 have HD := hide hD
 clear h hs hu hD ih hih hkk hint hz hzb hR1 hR2 hRR hself hkl hDl hd0
 go_enter Tryz.func22, Tryz.ntmps22
 go_upto_region 1 with (fail)
 show Code.wp _ _ _ _ (w.alloc (.cells (encC c).toArray 30))
 generalize w.alloc (.cells (encC c).toArray 30) = W1 at hx hb1 ⊢
 obtain ⟨b6, hb6⟩ : ∃ b, w.heap.size = b := ⟨_, rfl⟩
 rw [hb6] at hb1 ⊢
 have HX := hide hx
 have HBX := hide (fun X (hX : Ext W1 X) => BoxC.ext hb1 hX)
 clear hx hb1 hb6
 go_upto_if 22 with (fail)
 go_cut [14] from 20 to 22 (fun s14 w' => s14 = .int .i64 ((selfM fr tgt : Nat) : Int) ∧ w' = W1)
 case first =>
  by_cases he : fr = tgt
  ·have heb : (fr == tgt) = true := by simp [he]
   have HSG := hide (show selfM fr tgt = 1 from if_pos he)
   go_wp2
   go_meet
   case rel => exact ⟨by rw [HSG.out]; rfl, rfl⟩
  ·have heb : (fr == tgt) = false := by simp [he]
   have HSG := hide (show selfM fr tgt = 0 from if_neg he)
   go_wp2
   go_meet
   case rel => exact ⟨by rw [HSG.out]; rfl, rfl⟩
 case rest =>
  obtain ⟨rfl, rfl⟩ := hcut
  obtain ⟨own, hown⟩ : ∃ q, selfM fr tgt = q := ⟨_, rfl⟩
  rw [hown]
  have HOW := hide hown
  clear hown
  have hbx := HBX.out wc (Below.refl _ _)
  go_wp2_with (first | (refine BigFrame.wpList_want (by rfl) fun K hK => ?_; refine wp_load_mid 30 (.tmp 6) rfl b6 0 rfl (encC c) cd hbx.range hcd1 hcd2 Tryz.confSize ?_; refine hK _ _ ?_; simp only [Act.put]))
  obtain ⟨W1, rfl⟩ : ∃ x : World, x = wc := ⟨_, rfl⟩
  refine (HKK.out W1 HX.out).mono ?_
  rintro e W5 ⟨v5, rfl, hkv, E5⟩
  obtain ⟨Ks, hKs⟩ : ∃ K, kidsG c fr = K := ⟨_, rfl⟩
  rw [hKs] at hkv
  have HKS := hide hKs
  have HKN := hide (show Ks.length ≤ 1000 from by rw [← hKs]; exact HKL.out)
  obtain ⟨vs, hrow, hri⟩ := hkv
  obtain ⟨ka, kc, rfl⟩ := owns_shape hrow
  have HROW5 := hide hrow
  have HRI := hide hri
  have HE5 := hide E5
  clear hrow hri E5 hbx hKs HKK HKL
  go_wp2_with fail
  go_loopw [5, 14, 16] (fun v5 v14 v16 wr => ∃ (i m u : Nat), i ≤ Ks.length ∧ v16 = .int .i64 i ∧ v14 = .int .i64 (m : Int) ∧ v5 = .int .i64 (u : Int) ∧ (m ≤ u + 1 ∧ u ≤ 2000) ∧ (d0 = 0 → m = own ∧ u = us) ∧ (∀ d, d0 = d + 1 → runGo (runN (kidsG c) tgt D d) D (Ks.drop i) m u = (R1, R2)) ∧ Ext W5 wr) (fun _ _ i _ => Ks.length - (intOf i).toNat)
  case atStart =>
   refine ⟨0, own, us, Nat.zero_le _, rfl, rfl, rfl, ⟨by have := HSF.out; rw [HOW.out] at this; omega, HUS.out⟩, fun _ => ⟨rfl, rfl⟩, fun d hd => ?_, Below.refl _ _⟩
   have := HRR.out
   subst hd
   rw [List.drop_zero, ← HKS.out, ← HOW.out]
   exact this
  case round =>
   obtain ⟨i, m, u, hi, rfl, rfl, rfl, hbd, h0, hgo, hext⟩ := hrel
   have HBD := hide hbd
   have HEK := hide hext
   have HGO0 := hide h0
   have HGO := hide hgo
   clear hbd hext h0 hgo
   have hend : (Ks.length ≤ i ∨ z = 0 ∨ 2000 ≤ u) → m = R1 ∧ u = R2 := fun ho => by
    rcases Nat.eq_zero_or_pos d0 with hd | hd
    ·obtain ⟨h1, h2⟩ := HGO0.out hd
     have := HRR.out
     subst hd
     have e : runN (kidsG c) tgt D 0 fr us = (selfM fr tgt, us) := rfl
     rw [e, HOW.out] at this
     injection this with a b
     omega
    ·obtain ⟨d, hd⟩ : ∃ d, d0 = d + 1 := ⟨d0 - 1, by omega⟩
     have hg := HGO.out d hd
     have hz1 : ¬ z = 0 := by have := HZ0.out; omega
     rcases ho with ho | ho | ho
     ·rw [List.drop_of_length_le ho] at hg
      injection hg with a b
      exact ⟨a, b⟩
     ·exact absurd ho hz1
     ·rcases Nat.lt_or_ge i Ks.length with hi | hi
      ·rw [runGo_next hi, if_neg (by omega)] at hg
       injection hg with a b
       exact ⟨a, b⟩
      ·rw [List.drop_of_length_le hi] at hg
       injection hg with a b
       exact ⟨a, b⟩
   have HEND := hide hend
   have HEW := hide (HE5.out.trans HEK.out)
   clear hend
   by_cases hlt : i < Ks.length
   ·have hltz : (i : Int) < Ks.length := by omega
    have hltd : decide ((i : Int) < Ks.length) = true := decide_eq_true hltz
    by_cases hz0 : 0 < z
    ·have hzd : decide (0 < z) = true := decide_eq_true hz0
     by_cases hu2 : u < 2000
     ·have hu2z : (u : Int) < 2000 := by omega
      have hu2d : decide ((u : Int) < 2000) = true := decide_eq_true hu2z
      have hwi : IntKind.i64.wrap ((i : Int) + 1) = ((i + 1 : Nat) : Int) := by have := HKN.out; rw [IntKind.wrap_i64]; omega
      obtain ⟨d, hd⟩ : ∃ d : Nat, d0 = d + 1 := ⟨d0 - 1, by have := HZ0.out; omega⟩
      have hwz : IntKind.i64.wrap (z - 1) = (d : Int) := by have := HZ0.out; have := HZB.out; rw [IntKind.wrap_i64]; omega
      have hwu : IntKind.i64.wrap ((u : Int) + 1) = ((u + 1 : Nat) : Int) := by rw [IntKind.wrap_i64]; omega
      obtain ⟨gk, cap, hgv, -⟩ := owns_block HROW5.out (by omega)
      injection hgv with h1 h2 h3
      subst h1
      obtain ⟨rv, hrv, hri⟩ := HRI.out.at i hlt
      have hcell := (owns_ext HROW5.out HEK.out).cells (g := gk) rfl i rv hrv
      rw [add_cell] at hcell
      have hgo := HGO.out d hd
      rw [runGo_next hlt, if_pos hu2] at hgo
      generalize Ks[i] = l at hri hgo
      obtain ⟨hll, ra, rc, rfl⟩ := hri.shape
      have HLL := hide hll
      have HRL := hide (hri.ext HEK.out)
      have HHD := hide hd
      clear hri hrv h2 h3 hll hd
      by_cases hl0 : l.length = 0
      ·rw [if_pos hl0] at hgo
       have hl0z : ((l.length : Int) == 0) = true := by simp [hl0]
       have HNX := hide hgo
       clear hgo
       go_wp2
       go_roundw
       case rel => exact ⟨i + 1, m, u, hlt, by go_num, rfl, rfl, HBD.out, fun h => by have := HHD.out; omega, fun d' hd' => by have := HHD.out; obtain rfl : d' = d := (by omega); exact HNX.out, HEK.out⟩
       case measure => simp [intOf] <;> omega
      ·rw [if_neg hl0] at hgo
       have hl0z : ((l.length : Int) == 0) = false := beq_eq_false_iff_ne.2 (by omega)
       have hl0n : ¬ (l.length : Int) = 0 := by omega
       have HNX0 := hide hgo
       have HCL := hide hcell
       clear hgo
       go_upto_if 49 with (fail)
       obtain ⟨wk, hwk⟩ : ∃ x : World, x = wr := ⟨_, rfl⟩
       go_cut [17] from 46 to 56 (fun s17 w' => s17 = .int .i64 (drawN D u) ∧ w' = wr)
       case first =>
        by_cases hDl : 0 < D.length
        ·have hDz : (0 : Int) < D.length := by omega
         have hDn : ¬ (D.length : Int) = 0 := by omega
         have hDb : ((D.length : Int) == 0) = false := beq_eq_false_iff_ne.2 (by omega)
         have hDd : decide ((0 : Int) < D.length) = true := decide_eq_true hDz
         have hq : u % D.length < D.length := Nat.mod_lt _ hDl
         have hrem : (u : Int).tmod (D.length : Int) = ((u % D.length : Nat) : Int) := by rw [Int.tmod_eq_emod_of_nonneg (by omega)]; exact (Int.natCast_emod _ _).symm
         have hdr : drawN D u = D[u % D.length] := dif_pos hDl
         obtain ⟨db, dof, rfl, -, hdc⟩ := ints_row (HIN.out wr (HX.out.trans HEW.out)) (u % D.length) hq
         generalize D[u % D.length] = y at hdc hdr
         have HDR := hide hdr
         generalize u % D.length = q at hq hrem hdc
         have hqz : (q : Int) < D.length := by omega
         have hwq : IntKind.i64.wrap (q : Int) = (q : Int) := by have := HDL.out; rw [IntKind.wrap_i64]; omega
         clear hdr
         go_wp2
         go_meet
         case rel => exact ⟨by rw [HDR.out], rfl⟩
        ·have hDz : ¬ (0 : Int) < D.length := by omega
         have hDd : decide ((0 : Int) < D.length) = false := decide_eq_false hDz
         have HDR := hide (show drawN D u = (u : Int) from dif_neg hDl)
         go_wp2
         go_meet
         case rel => exact ⟨by rw [HDR.out], rfl⟩
       case rest =>
        obtain ⟨rfl, rfl⟩ := hcut
        have hyi : I64 (drawN D u) := by
         unfold drawN
         split
         ·exact HD.out _ (List.getElem_mem _)
         ·unfold I64; omega
        have hpk := pickN_at D l u
        have hab := around_bd (drawN D u) l.length (by omega)
        have har := fun X => around_any (drawN D u) l.length X hyi (by have := HLL.out; omega)
        generalize drawN D u = y at hyi hpk hab har ⊢
        obtain ⟨j, hj⟩ : ∃ j : Nat, around y l.length = j := ⟨(around y l.length).toNat, by omega⟩
        rw [hj] at hab
        simp only [hj] at har
        have hjl : j < l.length := by omega
        have hjz : (j : Int) < l.length := by omega
        obtain ⟨rb, ro, rfl, -, hjc⟩ := ints_row HRL.out j hjl
        have hpk := hpk j hj hjl
        rw [← hpk] at hjc
        have hbb := runN_bd (kidsG c) tgt D d (pickN D l u) (u + 1) (by omega)
        have hcall := fun X (hX : Ext wc X) => HIH0.out d HHD.out (pickN D l u) (u + 1) X (HX.out.trans (HEW.out.trans hX)) (by omega)
        have hnx := HNX0.out
        generalize pickN D l u = x at hpk hjc hbb hcall hnx
        obtain ⟨r1, hr1⟩ : ∃ q, (runN (kidsG c) tgt D d x (u + 1)).1 = q := ⟨_, rfl⟩
        obtain ⟨r2, hr2⟩ : ∃ q, (runN (kidsG c) tgt D d x (u + 1)).2 = q := ⟨_, rfl⟩
        simp only [hr1, hr2] at hbb hcall hnx
        have HRB := hide hbb
        have HNX := hide (show d0 = d + 1 → ∀ d', d0 = d' + 1 → runGo (runN (kidsG c) tgt D d') D (Ks.drop (i + 1)) (m + r1) r2 = (R1, R2) from fun h d' hd' => by obtain rfl : d' = d := (by omega); exact hnx)
        have HAR := hide har
        obtain ⟨wr, rfl⟩ : ∃ x : World, x = wc := ⟨_, rfl⟩
        have HIH := hide (fun X (hX : Ext W1 X) (hX2 : Ext wr X) => hcall X hX2)
        have HCEL := hide (fun X (hX : Ext wr X) => cell_ext hX hjc)
        have HROW := hide (fun X (hX : Ext wr X) => cell_ext hX HCL.out)
        clear hbb hcall hnx hpk hjc har hab hj hyi hr1 hr2 hcell HNX0 HCL
        go_upto_region 12 with (fail)
        refine wp_region_ro 87 [18, 19, 57, 58, 59, 60, 61, 62, 63, 64, 65, 66, 67, 68, 69, 70, 71, 72, 73, 74, 75, 76, 77, 78, 79, 80] (fun w' => Ext W1 w' ∧ Ext wr w') (fun (t : Nat) (wI : World) (v : Value) => match t with | 18 => v = (.int .i64 ((r1 : Nat) : Int)) | 19 => v = (.int .i64 ((r2 : Nat) : Int)) | 57 => v = (.tuple #[.int .i64 ((r1 : Nat) : Int), .int .i64 ((r2 : Nat) : Int)]) | 58 => v = (.agg (encC c).toArray) | 59 => v = (.slice (some ⟨gk, 0, none⟩) Ks.length kc) | 60 => v = (.int .i64 (i : Int)) | 61 => v = (.pointer (some ⟨gk, i, none⟩)) | 62 => v = (.slice (some ⟨rb, ro, none⟩) l.length rc) | 63 => v = (.int .i64 y) | 64 => v = (.slice (some ⟨gk, 0, none⟩) Ks.length kc) | 65 => v = (.int .i64 (i : Int)) | 66 => v = (.pointer (some ⟨gk, i, none⟩)) | 67 => v = (.slice (some ⟨rb, ro, none⟩) l.length rc) | 68 => v = (.int .i64 (l.length : Int)) | 69 => v = (.int .i64 (j : Int)) | 70 => v = (.pointer (some ⟨rb, ro + j, none⟩)) | 71 => v = (.int .i64 x) | 72 => v = (.int .i64 tgt) | 73 => v = (.int .i64 z) | 74 => v = (.int .i64 (d : Int)) | 75 => v = (.slice da D.length dc) | 76 => v = (.int .i64 (u : Int)) | 77 => v = (.int .i64 ((u + 1 : Nat) : Int)) | 78 => v = (.tuple #[.int .i64 ((r1 : Nat) : Int), .int .i64 ((r2 : Nat) : Int)]) | 79 => v = (.int .i64 ((r1 : Nat) : Int)) | 80 => v = (.int .i64 ((r2 : Nat) : Int)) | _ => True) (by kernel_rfl) rfl (by kernel_rfl) (by kernel_rfl) (by kernel_rfl) ?_ ?_ ?_ ?_ ?_
        ·intro t w' w'' v hR hv
         exact hv
        ·intro w' w'' h e
         exact ⟨h.1.trans e, h.2.trans e⟩
        ·exact ⟨HEW.out.drew, (Below.refl _ _).drew⟩
        ·intro i o ho X w' hph hI hF K hK
         have hin : i < 26 := (Array.getElem?_eq_some_iff.1 ho).1
         have hi : i = 0 ∨ i = 1 ∨ i = 2 ∨ i = 3 ∨ i = 4 ∨ i = 5 ∨ i = 6 ∨ i = 7 ∨ i = 8 ∨ i = 9 ∨ i = 10 ∨ i = 11 ∨ i = 12 ∨ i = 13 ∨ i = 14 ∨ i = 15 ∨ i = 16 ∨ i = 17 ∨ i = 18 ∨ i = 19 ∨ i = 20 ∨ i = 21 ∨ i = 22 ∨ i = 23 ∨ i = 24 ∨ i = 25 := by omega
         rcases hi with rfl | rfl | rfl | rfl | rfl | rfl | rfl | rfl | rfl | rfl | rfl | rfl | rfl | rfl | rfl | rfl | rfl | rfl | rfl | rfl | rfl | rfl | rfl | rfl | rfl | rfl
         ·obtain rfl := Option.some.inj ho
          have e6 : X 6 = (.pointer (some ⟨b6, 0, none⟩)) := hF 6 (by kernel_rfl)
          have hx : Ext W1 w' := hph.1
          unfold wpOp
          simp only [ho]
          rw [if_pos (by rfl)]
          left
          rw [frame87]
          refine wp_load_mid 30 (.tmp 6) rfl b6 0 e6 (encC c) cd (HBX.out w' hx).range hcd1 hcd2 Tryz.confSize (metK (hK.out (.agg (encC c).toArray) _ (Below.refl _ _) (fun d hd => by cases hd; exact rfl)) ?_)
          simp [frame87, Act.put, *]
         ·obtain rfl := Option.some.inj ho
          have e15 : X 15 = (.slice (some ⟨gk, 0, none⟩) Ks.length kc) := hF 15 (by kernel_rfl)
          unfold wpOp
          simp only [ho]
          rw [if_pos (by rfl)]
          left
          rw [frame87]
          go_simp
          refine metK (hK.out ((.slice (some ⟨gk, 0, none⟩) Ks.length kc)) _ (Below.refl _ _) (fun d hd => by cases hd; exact rfl)) ?_
          simp [frame87, Act.put, *]
         ·obtain rfl := Option.some.inj ho
          have e16 : X 16 = (.int .i64 (i : Int)) := hF 16 (by kernel_rfl)
          unfold wpOp
          simp only [ho]
          rw [if_pos (by rfl)]
          left
          rw [frame87]
          go_simp
          refine metK (hK.out ((.int .i64 (i : Int))) _ (Below.refl _ _) (fun d hd => by cases hd; exact rfl)) ?_
          simp [frame87, Act.put, *]
         ·obtain rfl := Option.some.inj ho
          have e59 : X 59 = _ := hI 59 (by kernel_rfl)
          have e60 : X 60 = _ := hI 60 (by kernel_rfl)
          unfold wpOp
          simp only [ho]
          rw [if_pos (by rfl)]
          left
          rw [frame87]
          go_simp
          refine metK (hK.out ((.pointer (some ⟨gk, i, none⟩))) _ (Below.refl _ _) (fun d hd => by cases hd; exact rfl)) ?_
          simp [frame87, Act.put, *]
         ·obtain rfl := Option.some.inj ho
          have e61 : X 61 = _ := hI 61 (by kernel_rfl)
          have q := HROW.out w' hph.2
          unfold wpOp
          simp only [ho]
          rw [if_pos (by rfl)]
          left
          rw [frame87]
          go_simp
          refine metK (hK.out ((.slice (some ⟨rb, ro, none⟩) l.length rc)) _ (Below.refl _ _) (fun d hd => by cases hd; exact rfl)) ?_
          simp [frame87, Act.put, *]
         ·obtain rfl := Option.some.inj ho
          have e17 : X 17 = (.int .i64 y) := hF 17 (by kernel_rfl)
          unfold wpOp
          simp only [ho]
          rw [if_pos (by rfl)]
          left
          rw [frame87]
          go_simp
          refine metK (hK.out ((.int .i64 y)) _ (Below.refl _ _) (fun d hd => by cases hd; exact rfl)) ?_
          simp [frame87, Act.put, *]
         ·obtain rfl := Option.some.inj ho
          have e15 : X 15 = (.slice (some ⟨gk, 0, none⟩) Ks.length kc) := hF 15 (by kernel_rfl)
          unfold wpOp
          simp only [ho]
          rw [if_pos (by rfl)]
          left
          rw [frame87]
          go_simp
          refine metK (hK.out ((.slice (some ⟨gk, 0, none⟩) Ks.length kc)) _ (Below.refl _ _) (fun d hd => by cases hd; exact rfl)) ?_
          simp [frame87, Act.put, *]
         ·obtain rfl := Option.some.inj ho
          have e16 : X 16 = (.int .i64 (i : Int)) := hF 16 (by kernel_rfl)
          unfold wpOp
          simp only [ho]
          rw [if_pos (by rfl)]
          left
          rw [frame87]
          go_simp
          refine metK (hK.out ((.int .i64 (i : Int))) _ (Below.refl _ _) (fun d hd => by cases hd; exact rfl)) ?_
          simp [frame87, Act.put, *]
         ·obtain rfl := Option.some.inj ho
          have e64 : X 64 = _ := hI 64 (by kernel_rfl)
          have e65 : X 65 = _ := hI 65 (by kernel_rfl)
          unfold wpOp
          simp only [ho]
          rw [if_pos (by rfl)]
          left
          rw [frame87]
          go_simp
          refine metK (hK.out ((.pointer (some ⟨gk, i, none⟩))) _ (Below.refl _ _) (fun d hd => by cases hd; exact rfl)) ?_
          simp [frame87, Act.put, *]
         ·obtain rfl := Option.some.inj ho
          have e66 : X 66 = _ := hI 66 (by kernel_rfl)
          have q := HROW.out w' hph.2
          unfold wpOp
          simp only [ho]
          rw [if_pos (by rfl)]
          left
          rw [frame87]
          go_simp
          refine metK (hK.out ((.slice (some ⟨rb, ro, none⟩) l.length rc)) _ (Below.refl _ _) (fun d hd => by cases hd; exact rfl)) ?_
          simp [frame87, Act.put, *]
         ·obtain rfl := Option.some.inj ho
          have e67 : X 67 = _ := hI 67 (by kernel_rfl)
          unfold wpOp
          simp only [ho]
          rw [if_pos (by rfl)]
          left
          rw [frame87]
          go_simp
          refine metK (hK.out ((.int .i64 (l.length : Int))) _ (Below.refl _ _) (fun d hd => by cases hd; exact rfl)) ?_
          simp [frame87, Act.put, *]
         ·obtain rfl := Option.some.inj ho
          have e63 : X 63 = _ := hI 63 (by kernel_rfl)
          have e68 : X 68 = _ := hI 68 (by kernel_rfl)
          unfold wpOp
          simp only [ho]
          rw [if_pos (by rfl)]
          left
          rw [frame87]
          go_simp
          refine (HAR.out w').mono ?_
          rintro e w9 ⟨rfl, rfl⟩
          refine metK (hK.out (.int .i64 (j : Int)) w' (Below.refl _ _) (fun d hd => by cases hd; exact rfl)) ?_
          simp [frame87, Act.put, *]
         ·obtain rfl := Option.some.inj ho
          have e62 : X 62 = _ := hI 62 (by kernel_rfl)
          have e69 : X 69 = _ := hI 69 (by kernel_rfl)
          unfold wpOp
          simp only [ho]
          rw [if_pos (by rfl)]
          left
          rw [frame87]
          go_simp
          refine metK (hK.out ((.pointer (some ⟨rb, ro + j, none⟩))) _ (Below.refl _ _) (fun d hd => by cases hd; exact rfl)) ?_
          simp [frame87, Act.put, *]
         ·obtain rfl := Option.some.inj ho
          have e70 : X 70 = _ := hI 70 (by kernel_rfl)
          have q := HCEL.out w' hph.2
          unfold wpOp
          simp only [ho]
          rw [if_pos (by rfl)]
          left
          rw [frame87]
          go_simp
          refine metK (hK.out ((.int .i64 x)) _ (Below.refl _ _) (fun d hd => by cases hd; exact rfl)) ?_
          simp [frame87, Act.put, *]
         ·obtain rfl := Option.some.inj ho
          have e2 : X 2 = (.int .i64 tgt) := hF 2 (by kernel_rfl)
          unfold wpOp
          simp only [ho]
          rw [if_pos (by rfl)]
          left
          rw [frame87]
          go_simp
          refine metK (hK.out ((.int .i64 tgt)) _ (Below.refl _ _) (fun d hd => by cases hd; exact rfl)) ?_
          simp [frame87, Act.put, *]
         ·obtain rfl := Option.some.inj ho
          have e3 : X 3 = (.int .i64 z) := hF 3 (by kernel_rfl)
          unfold wpOp
          simp only [ho]
          rw [if_pos (by rfl)]
          left
          rw [frame87]
          go_simp
          refine metK (hK.out ((.int .i64 z)) _ (Below.refl _ _) (fun d hd => by cases hd; exact rfl)) ?_
          simp [frame87, Act.put, *]
         ·obtain rfl := Option.some.inj ho
          have e73 : X 73 = _ := hI 73 (by kernel_rfl)
          unfold wpOp
          simp only [ho]
          rw [if_pos (by rfl)]
          left
          rw [frame87]
          go_simp
          refine metK (hK.out ((.int .i64 (d : Int))) _ (Below.refl _ _) (fun d hd => by cases hd; exact rfl)) ?_
          simp [frame87, Act.put, *]
         ·obtain rfl := Option.some.inj ho
          have e4 : X 4 = (.slice da D.length dc) := hF 4 (by kernel_rfl)
          unfold wpOp
          simp only [ho]
          rw [if_pos (by rfl)]
          left
          rw [frame87]
          go_simp
          refine metK (hK.out ((.slice da D.length dc)) _ (Below.refl _ _) (fun d hd => by cases hd; exact rfl)) ?_
          simp [frame87, Act.put, *]
         ·obtain rfl := Option.some.inj ho
          have e5 : X 5 = (.int .i64 (u : Int)) := hF 5 (by kernel_rfl)
          unfold wpOp
          simp only [ho]
          rw [if_pos (by rfl)]
          left
          rw [frame87]
          go_simp
          refine metK (hK.out ((.int .i64 (u : Int))) _ (Below.refl _ _) (fun d hd => by cases hd; exact rfl)) ?_
          simp [frame87, Act.put, *]
         ·obtain rfl := Option.some.inj ho
          have e76 : X 76 = _ := hI 76 (by kernel_rfl)
          unfold wpOp
          simp only [ho]
          rw [if_pos (by rfl)]
          left
          rw [frame87]
          go_simp
          refine metK (hK.out ((.int .i64 ((u + 1 : Nat) : Int))) _ (Below.refl _ _) (fun d hd => by cases hd; exact rfl)) ?_
          simp [frame87, Act.put, *]
         ·obtain rfl := Option.some.inj ho
          have e58 : X 58 = _ := hI 58 (by kernel_rfl)
          have e71 : X 71 = _ := hI 71 (by kernel_rfl)
          have e72 : X 72 = _ := hI 72 (by kernel_rfl)
          have e74 : X 74 = _ := hI 74 (by kernel_rfl)
          have e75 : X 75 = _ := hI 75 (by kernel_rfl)
          have e77 : X 77 = _ := hI 77 (by kernel_rfl)
          have hx : Ext W1 w' := hph.1
          unfold wpOp
          simp only [ho]
          rw [if_pos (by rfl)]
          left
          rw [frame87]
          go_simp
          refine (HIH.out w' hx hph.2).mono ?_
          rintro e w9 ⟨rfl, E9⟩
          refine metK (hK.out (.tuple #[.int .i64 ((r1 : Nat) : Int), .int .i64 ((r2 : Nat) : Int)]) w9 E9 (fun d hd => by cases hd; exact rfl)) ?_
          simp [frame87, Act.put, *]
         ·obtain rfl := Option.some.inj ho
          have e78 : X 78 = _ := hI 78 (by kernel_rfl)
          unfold wpOp
          simp only [ho]
          rw [if_pos (by rfl)]
          left
          rw [frame87]
          go_simp
          refine metK (hK.out ((.tuple #[.int .i64 ((r1 : Nat) : Int), .int .i64 ((r2 : Nat) : Int)])) _ (Below.refl _ _) (fun d hd => by cases hd; exact rfl)) ?_
          simp [frame87, Act.put, *]
         ·obtain rfl := Option.some.inj ho
          have e57 : X 57 = _ := hI 57 (by kernel_rfl)
          unfold wpOp
          simp only [ho]
          rw [if_pos (by rfl)]
          left
          rw [frame87]
          go_simp
          refine metK (hK.out ((.int .i64 ((r1 : Nat) : Int))) _ (Below.refl _ _) (fun d hd => by cases hd; exact rfl)) ?_
          simp [frame87, Act.put, *]
         ·obtain rfl := Option.some.inj ho
          have e57 : X 57 = _ := hI 57 (by kernel_rfl)
          unfold wpOp
          simp only [ho]
          rw [if_pos (by rfl)]
          left
          rw [frame87]
          go_simp
          refine metK (hK.out ((.int .i64 ((r2 : Nat) : Int))) _ (Below.refl _ _) (fun d hd => by cases hd; exact rfl)) ?_
          simp [frame87, Act.put, *]
         ·obtain rfl := Option.some.inj ho
          have e79 : X 79 = _ := hI 79 (by kernel_rfl)
          unfold wpOp
          simp only [ho]
          rw [if_pos (by rfl)]
          left
          rw [frame87]
          go_simp
          refine metK (hK.out ((.int .i64 ((r1 : Nat) : Int))) _ (Below.refl _ _) (fun d hd => by cases hd; exact rfl)) ?_
          simp [frame87, Act.put, *]
         ·obtain rfl := Option.some.inj ho
          have e80 : X 80 = _ := hI 80 (by kernel_rfl)
          unfold wpOp
          simp only [ho]
          rw [if_pos (by rfl)]
          left
          rw [frame87]
          go_simp
          refine metK (hK.out ((.int .i64 ((r2 : Nat) : Int))) _ (Below.refl _ _) (fun d hd => by cases hd; exact rfl)) ?_
          simp [frame87, Act.put, *]
        ·intro X w' hph hI
         have e18 : X 18 = _ := hI 18 (by kernel_rfl)
         have e19 : X 19 = _ := hI 19 (by kernel_rfl)
         have e57 : X 57 = _ := hI 57 (by kernel_rfl)
         have e58 : X 58 = _ := hI 58 (by kernel_rfl)
         have e59 : X 59 = _ := hI 59 (by kernel_rfl)
         have e60 : X 60 = _ := hI 60 (by kernel_rfl)
         have e61 : X 61 = _ := hI 61 (by kernel_rfl)
         have e62 : X 62 = _ := hI 62 (by kernel_rfl)
         have e63 : X 63 = _ := hI 63 (by kernel_rfl)
         have e64 : X 64 = _ := hI 64 (by kernel_rfl)
         have e65 : X 65 = _ := hI 65 (by kernel_rfl)
         have e66 : X 66 = _ := hI 66 (by kernel_rfl)
         have e67 : X 67 = _ := hI 67 (by kernel_rfl)
         have e68 : X 68 = _ := hI 68 (by kernel_rfl)
         have e69 : X 69 = _ := hI 69 (by kernel_rfl)
         have e70 : X 70 = _ := hI 70 (by kernel_rfl)
         have e71 : X 71 = _ := hI 71 (by kernel_rfl)
         have e72 : X 72 = _ := hI 72 (by kernel_rfl)
         have e73 : X 73 = _ := hI 73 (by kernel_rfl)
         have e74 : X 74 = _ := hI 74 (by kernel_rfl)
         have e75 : X 75 = _ := hI 75 (by kernel_rfl)
         have e76 : X 76 = _ := hI 76 (by kernel_rfl)
         have e77 : X 77 = _ := hI 77 (by kernel_rfl)
         have e78 : X 78 = _ := hI 78 (by kernel_rfl)
         have e79 : X 79 = _ := hI 79 (by kernel_rfl)
         have e80 : X 80 = _ := hI 80 (by kernel_rfl)
         clear hI
         simp only [overF, List.foldl_cons, List.foldl_nil, List.setIfInBounds_toArray, List.set_cons_succ, List.set_cons_zero, e18, e19, e57, e58, e59, e60, e61, e62, e63, e64, e65, e66, e67, e68, e69, e70, e71, e72, e73, e74, e75, e76, e77, e78, e79, e80]
         obtain ⟨hx1, hx2⟩ := hph
         have HE9 := hide hx1
         have HEK9 := hide (HEK.out.trans hx2)
         clear hx1 hx2 e57 e58 e59 e60 e61 e62 e63 e64 e65 e66 e67 e68 e69 e70 e71 e72 e73 e74 e75 e76 e77 e78 e79 e80
         generalize w' = W9 at *
         have hwn : IntKind.i64.wrap ((m : Int) + (r1 : Int)) = ((m + r1 : Nat) : Int) := by have := HBD.out; have := HRB.out; rw [IntKind.wrap_i64]; omega
         go_wp2
         go_roundw
         case rel => exact ⟨i + 1, m + r1, r2, hlt, by go_num, rfl, rfl, by have := HRB.out; have := HBD.out; omega, fun h => by have := HHD.out; omega, HNX.out HHD.out, HEK9.out⟩
         case measure => simp [intOf] <;> omega
     ·have hu2z : ¬ (u : Int) < 2000 := by omega
      have hu2d : decide ((u : Int) < 2000) = false := decide_eq_false hu2z
      obtain ⟨h1, h2⟩ := HEND.out (.inr (.inr (by omega)))
      subst h1
      subst h2
      have HZ := hide (HX.out.trans HEW.out)
      go_wp2
      go_ret2
      exact ⟨rfl, HZ.out⟩
    ·have hz0n : ¬ 0 < z := hz0
     have hzd : decide (0 < z) = false := decide_eq_false hz0
     obtain ⟨h1, h2⟩ := HEND.out (.inr (.inl (by have := HZB.out; omega)))
     subst h1
     subst h2
     have HZ := hide (HX.out.trans HEW.out)
     go_wp2
     go_ret2
     exact ⟨rfl, HZ.out⟩
   ·have hltz : ¬ (i : Int) < Ks.length := by omega
    have hltd : decide ((i : Int) < Ks.length) = false := decide_eq_false hltz
    obtain ⟨h1, h2⟩ := HEND.out (.inl (by omega))
    subst h1
    subst h2
    have HZ := hide (HX.out.trans HEW.out)
    go_wp2
    go_ret2
    exact ⟨rfl, HZ.out⟩
/-- how many calls one call makes, as they are dealt -/
theorem run_any (c : ConfD) (tgt : Int) (D : List Int) (hD : ∀ x ∈ D, I64 x) : ∀ (d : Nat), d ≤ 100 → ∀ (fr : Int) (u : Nat) (dv : Value) (w : World), GC w c → Ints w dv D → u ≤ 2000 → Calls Tryz.prog 22 #[.agg (encC c).toArray, .int .i64 fr, .int .i64 tgt, .int .i64 (d : Int), dv, .int .i64 (u : Int)] w (RunP c tgt D d fr u w)
 | 0, hd => run_step c tgt D hD 0 hd fun d h => by omega
 | d + 1, hd => run_step c tgt D hD (d + 1) hd fun d' h => by
  obtain rfl : d' = d := by omega
  exact run_any c tgt D hD d' (by omega)
end Go.Proofs.YtceaeiaoanhlnaaGreatDoor
