/- Merged texts (GrA, GrB, GrC). -/
import Derived.Test.YtceaeiaoanhlnaaGreatDoorZgt
import Derived.Test.YtceaeiaoanhlnaaGreatDoorZrf
import Derived.Test.YtceaeiaoanhlnaaGreatDoorZrw
namespace Go.Proofs.YtceaeiaoanhlnaaGreatDoor
open Go.ChangeShapes Go.WideShapes Go.ChangeAt Go.RowKit Go.Lib Go.Shelf
theorem on_take (R : List RuleD) (p : ByteArray) : ∀ k, k ≤ R.length → (R.take k).filter (fun r => onB (bl r.path) r.ex (bl p)) = ((List.range k).filter (onN R (bl p))).filterMap fun i => R[i]?
 | 0, _ => rfl
 | k + 1, h => by
  rw [take_snoc R k h, List.range_succ, List.filter_append, List.filter_append, List.filterMap_append, on_take R p k (by omega)]
  have e : onN R (bl p) k = onB (bl R[k].path) R[k].ex (bl p) := by unfold onN; rw [List.getElem?_eq_getElem h]
  congr 1
  simp only [List.filter_cons, List.filter_nil, e]
  cases onB (bl R[k].path) R[k].ex (bl p) with
  | false => rfl
  | true =>
   have hk : k < R.length := h
   simp [List.filterMap_cons, hk]
theorem fm_some {α β : Type} (g : α → Option β) : ∀ (I : List α), (∀ i ∈ I, (g i).isSome = true) → (I.filterMap g).map some = I.map g
 | [], _ => rfl
 | i :: I, h => by
  obtain ⟨b, hb⟩ := Option.isSome_iff_exists.1 (h i (List.mem_cons_self ..))
  simp only [List.filterMap_cons, hb, List.map_cons]
  rw [fm_some g I fun j hj => h j (List.mem_cons_of_mem _ hj)]
/-- the row of On: which rules are a path's -/
theorem onL_rows (R : List RuleD) (p : ByteArray) : (onR R p).map some = (onL R (bl p) R.length).map fun i : Int => R[i.toNat]? := by
 have h := on_take R p R.length (Nat.le_refl _)
 rw [List.take_length] at h
 unfold onR onL
 rw [h, fm_some, List.map_map]
 ·rfl
 ·intro i hi
  have := List.mem_range.1 (List.mem_filter.1 hi).1
  rw [List.getElem?_eq_getElem this]
  rfl
theorem onRows_len (R : List RuleD) (p : ByteArray) : (onL R (bl p) R.length).length = (onR R p).length := by
 have := congrArg List.length (onL_rows R p)
 simpa using this.symm
theorem onL_at (R : List RuleD) (p : ByteArray) (j : Nat) (hj : j < (onR R p).length) : ∃ i : Nat, ∃ h : i < R.length, (onL R (bl p) R.length)[j]? = some (i : Int) ∧ (onR R p)[j] = R[i] := by
 have hj2 : j < (onL R (bl p) R.length).length := by rw [onRows_len]; exact hj
 have h := congrArg (fun l => l[j]?) (onL_rows R p)
 simp only [List.getElem?_map, List.getElem?_eq_getElem hj, List.getElem?_eq_getElem hj2, Option.map_some] at h
 have h1 := Option.some.inj h
 obtain ⟨hi, e⟩ := List.getElem?_eq_some_iff.1 h1.symm
 have h0 : (onL R (bl p) R.length)[j] = (((onL R (bl p) R.length)[j].toNat : Nat) : Int) := by
  have hm : (onL R (bl p) R.length)[j] ∈ onL R (bl p) R.length := List.getElem_mem hj2
  unfold onL at hm
  obtain ⟨k, -, hk⟩ := List.mem_map.1 hm
  have : (onL R (bl p) R.length)[j] = (k : Int) := by unfold onL; exact hk.symm
  omega
 exact ⟨_, hi, by rw [List.getElem?_eq_getElem hj2, ← h0], e.symm⟩
theorem sl_at {α : Type} {enc : α → List Value} {k : Nat} {w : World} {a : Option Addr} {n cap : Nat} {xs : List α} (h : Sl enc k w (.slice a n cap) xs) (i : Nat) (hi : i < xs.length) :
  ∃ b off, a = some ⟨b, off, none⟩ ∧ b < w.heap.size ∧ ∀ j u, (enc xs[i])[j]? = some u → w.cell? ⟨b, off + i * k + j, none⟩ = some u := by
 obtain ⟨_, a', cap', hv, _, hc⟩ := h
 cases hv
 exact hc i xs[i] (List.getElem?_eq_getElem hi)
theorem cell_ext {w X : World} (hX : Ext w X) {g o : Nat} {u : Value} (h : w.cell? ⟨g, o, none⟩ = some u) : X.cell? ⟨g, o, none⟩ = some u := by
 have h1 := hX.block g (World.block_lt_of_cell? w _ h)
 simp only [World.cell?] at h ⊢
 rw [h1]
 exact h
/-- the phases of 'out = append(out, x)' -/
def PhA1 (B : Nat) (W : World) (v5 : Value) (L : List Int) (x : Int) : List Value → World → Prop
 | [], w' => Ext W w'
 | [v], w' => ∃ w8, Ext W w8 ∧ v = .slice (some ⟨w8.heap.size, 0, none⟩) 1 1 ∧ Ext (w8.alloc (.cells #[.int .i64 x] 3)) w'
 | [_, u], w' => ∃ w7 w9, Ext W w7 ∧ w7.grownBy w9 v5.ownBlock ∧ w9.ownsRow B 3 1 u (L.length + 1) (L.flatMap encI ++ [x].flatMap encI) ∧ Ext w9 w'
 | _ :: u :: z :: _, w' => z = u ∧ ∃ w7 w9, Ext W w7 ∧ w7.grownBy w9 v5.ownBlock ∧ w9.ownsRow B 3 1 u (L.length + 1) (L.flatMap encI ++ [x].flatMap encI) ∧ Ext w9 w'
theorem PhA1.keep {B : Nat} {W : World} {v5 : Value} {L : List Int} {x : Int} : ∀ {vs : List Value} {w' w'' : World}, PhA1 B W v5 L x vs w' → Ext w' w'' → PhA1 B W v5 L x vs w''
 | [], _, _, h, e => Ext.trans h e
 | [_], _, _, ⟨w8, h1, h2, h3⟩, e => ⟨w8, h1, h2, h3.trans e⟩
 | [_, _], _, _, ⟨w7, w9, h1, h2, h3, h4⟩, e => ⟨w7, w9, h1, h2, h3, h4.trans e⟩
 | _ :: _ :: _ :: _, _, _, ⟨h0, w7, w9, h1, h2, h3, h4⟩, e => ⟨h0, w7, w9, h1, h2, h3, h4.trans e⟩
theorem PhA1.x {B : Nat} {W : World} {v5 : Value} {L : List Int} {x : Int} {vs : List Value} {w' : World} (h : PhA1 B W v5 L x vs w') (hl : vs.length ≤ 0) : Ext W w' := by
 rcases vs with _ | ⟨v, vs⟩
 ·exact h
 ·simp at hl
theorem ints_lit1 {w w' : World} {x : Int} (h : Ext (w.alloc (.cells #[.int .i64 x] 3)) w') : Ints w' (.slice (some ⟨w.heap.size, 0, none⟩) 1 1) [x] := by
 have h1 := World.ownsRow_lit (base := 0) (e := 3) (size := 1) w #[.int .i64 x] 1 (Nat.zero_le _) (by unfold maxLen; omega) rfl
 have h2 : Ints (w.alloc (.cells #[.int .i64 x] 3)) (.slice (some ⟨w.heap.size, 0, none⟩) 1 1) [x] := Sl.of_own' (enc := encI) (xs := [x]) (fun _ => rfl) (base := 0) (e := 3) h1
 exact h2.ext h
/-- each rule's path is one -/
theorem chk_paths {c : ConfD} (h : chkC c = 0) (hf : ConfFit c) : ∀ r ∈ c.R, r.path.size ≤ 9223372036854775807 ∧ isPath (bl r.path) = true := fun r hr => by
 refine ⟨(hf.2.2.1 r hr).1.1, ?_⟩
 have h1 := chk_rule h hr
 unfold rchk at h1
 split at h1
 ·rename_i hm
  exact absurd h1 hm
 ·rename_i hm
  have hm' : mchk (bl r.path) r.H = 0 := Classical.not_not.1 hm
  unfold mchk at hm'
  split at hm'
  ·assumption
  ·cases hm'
set_option maxRecDepth 100000 in
set_option maxHeartbeats 16000000 in
/-- a path's copies, by definition -/
theorem rcop_any (c : ConfD) (p : ByteArray) (w : World) (h : GC w c) (hp : SzB p) :
  Calls Tryz.prog 30 #[.agg (encC c).toArray, .string p] w fun e w' => ∃ v, e = .returned v ∧ w'.ownsRow w.heap.size 3 1 v (targC c.R p).length ((targC c.R p).flatMap encI) ∧ Ext w w' := by
 obtain ⟨cd, hcd1, hcd2⟩ := Tryz.confDesc
 obtain ⟨ii, zi, hi0, hi1, hi2, hi3, hi4⟩ := info_partsN gInfoI
 have hx : Ext w (w.alloc (.cells (encC c).toArray 30)) := (Below.refl _ _).alloc (Nat.le_refl _) _
 have hb1 := heap_alloc_new w (.cells (encC c).toArray 30)
 have hon := fun X (hX : Ext w X) => ron_any c.R p c.rv X (h.ext hX).r (h.ext hX).rk (chk_paths h.chk h.fit) hp (by have := chk_R h.chk; omega)
 have hru := fun X (hX : Ext w X) => (h.ext hX).r
 have hrl := chk_R h.chk
 have hol := onRows_len c.R p
 have hoa := onL_at c.R p
 obtain ⟨_, ra, rc, hrv⟩ := h.r.shape
 rw [hrv] at hon hru
 unfold targC
 have hll : (onR c.R p).length ≤ c.R.length := by unfold onR; exact List.length_filter_le _ _
 generalize onR c.R p = M at hol hoa hll ⊢
 generalize onL c.R (bl p) c.R.length = O at hon hol hoa
 have HON0 := hide hon
 have HRU := hide hru
 have HRL := hide hrl
 have hO := hide hol
 have HOA := hide hoa
 have HLL := hide hll
 have HRV := hide hrv
 clear hon hru hrl hol hoa hll h hp
 go_enter Tryz.func30, Tryz.ntmps30
 go_upto_region 1 with (fail)
 show Code.wp _ _ _ _ (w.alloc (.cells (encC c).toArray 30))
 generalize w.alloc (.cells (encC c).toArray 30) = W at hx hb1 ⊢
 have HX := hide hx
 obtain ⟨b0, hb0⟩ : ∃ b, w.heap.size = b := ⟨_, rfl⟩
 rw [hb0] at hb1
 have HBX := hide (fun X (hX : Ext W X) => (by
  have h1 := (hX.block b0 (Array.getElem?_eq_some_iff.1 hb1).1).trans hb1
  simp only [World.cell?, h1]
  exact congrArg some HRV.out : X.cell? ⟨b0, 2, none⟩ = some (.slice ra c.R.length rc)))
 have q0 := HBX.out W (Below.refl _ _)
 clear hx hb1
 go_wp2_with fail
 refine (HON0.out W HX.out).mono ?_
 rintro e W1 ⟨v1, rfl, hio, E1⟩
 obtain ⟨hlo, ia, ic, rfl⟩ := hio.shape
 have HIO := hide hio
 have HE1 := hide E1
 clear hio E1 q0 HON0
 go_wp2_with fail
 go_loopw [5, 7] (fun v5 v7 wr => ∃ j : Nat, j ≤ M.length ∧ v7 = .int .i64 j ∧ ∃ xa xc, v5 = .slice xa (copiesOf (M.take j)).length xc ∧ Hid (wr.ownsRow W1.heap.size 3 1 (.slice xa (copiesOf (M.take j)).length xc) (copiesOf (M.take j)).length ((copiesOf (M.take j)).flatMap encI)) ∧ Ext W1 wr) (fun _ j _ => M.length - (intOf j).toNat)
 case atStart => exact ⟨0, Nat.zero_le _, rfl, none, 0, rfl, hide ⟨rfl, .inl ⟨rfl, rfl⟩⟩, Below.refl _ _⟩
 case round =>
  obtain ⟨j, hj, rfl, xa, xc, rfl, hown, hext⟩ := hrel
  have HOWN := hide hown.out
  have HEJ := hide hext
  have HX2 := hide (HX.out.trans (HE1.out.trans hext))
  clear hown hext
  have hjo : (O.length : Int) = M.length := by rw [hO.out]
  have HBR := hide (fun X (hX : Ext wr X) => HBX.out X (HE1.out.trans (HEJ.out.trans hX)))
  by_cases hlt : j < M.length
  ·have hltz : (j : Int) < O.length := by omega
   have hwj : IntKind.i64.wrap ((j : Int) + 1) = ((j + 1 : Nat) : Int) := by have := HLL.out; have := HRL.out; rw [IntKind.wrap_i64]; omega
   obtain ⟨i, hi, hoi, hmi⟩ := HOA.out j hlt
   have hiz : (i : Int) < c.R.length := by omega
   have hjO : j < O.length := by omega
   obtain ⟨ib, io, rfl, hib, hq⟩ := ints_row HIO.out j hjO
   rw [show O[j] = (i : Int) by have := (List.getElem?_eq_some_iff.1 hoi).2; exact this] at hq
   obtain ⟨rb, ro, rfl, hrb, hcell⟩ := sl_at (HRU.out W1 (HX.out.trans HE1.out)) i hi
   have hc4 := hcell 4 _ rfl
   have hsn : copiesOf (M.take (j + 1)) = copiesOf (M.take j) ++ if c.R[i].mi ≠ 0 then [c.R[i].mi] else [] := by
    unfold copiesOf
    rw [take_snoc M j hlt, List.filter_append, List.map_append, hmi]
    congr 1
    by_cases h0 : c.R[i].mi = 0 <;> simp [h0]
   have hcl : (copiesOf (M.take j)).length ≤ 20 := by
    unfold copiesOf
    rw [List.length_map]
    have h1 := List.length_filter_le (fun r : RuleD => decide (r.mi ≠ 0)) (M.take j)
    rw [List.length_take] at h1
    have := HLL.out
    have := HRL.out
    omega
   generalize copiesOf (M.take j) = C at HOWN hsn hcl ⊢
   generalize c.R[i].mi = mi at hc4 hsn
   have HON := hide (fun X (hX : Ext wr X) => cell_ext (HEJ.out.trans hX) hq)
   have HMI := hide (fun X (hX : Ext wr X) => cell_ext (HEJ.out.trans hX) hc4)
   have HCL := hide hcl
   have HB := hide (fun X (hX : Ext wr X) => Nat.le_trans (HEJ.out.size) hX.size)
   clear hoi hmi hib hq hrb hcell hc4 hcl
   have q1 := HBR.out wr (Below.refl _ _)
   have q2 := HON.out wr (Below.refl _ _)
   have q3 := HMI.out wr (Below.refl _ _)
   by_cases hm0 : mi = 0
   ·have hm0b : (mi == 0) = true := by simp [hm0]
    rw [if_neg (by simp [hm0]), List.append_nil] at hsn
    have HSN := hide hsn
    clear hsn
    go_wp2_with fail
    go_quiet (fail)
    rename_i nq
    have hE : Ext wr (wr.drewN nq) := Below.drewN' (Below.refl _ _) nq
    have HOW := hide (owns_ext HOWN.out hE)
    have HEW := hide (HEJ.out.trans hE)
    clear hE
    go_wp2
    go_roundw
    case rel => exact ⟨j + 1, hlt, by go_num, _, _, by rw [HSN.out], hide (by rw [HSN.out]; exact HOW.out), HEW.out⟩
    case measure => simp [intOf] <;> omega
   ·have hm0b : (mi == 0) = false := by simp [hm0]
    rw [if_pos hm0] at hsn
    have hln : (copiesOf (M.take (j + 1))).length = C.length + 1 := by rw [hsn]; simp
    have HSN := hide hsn
    have HLN := hide hln
    clear hsn hln
    go_wp2_with fail
    go_quiet (fail)
    rename_i nq
    have hE : Ext wr (wr.drewN nq) := Below.drewN' (Below.refl _ _) nq
    have HOW := hide (owns_ext HOWN.out hE)
    have HEW := hide (HEJ.out.trans hE)
    have HBRw := hide (fun X (hX : Ext (wr.drewN nq) X) => HBR.out X (hE.trans hX))
    have HONw := hide (fun X (hX : Ext (wr.drewN nq) X) => HON.out X (hE.trans hX))
    have HMIw := hide (fun X (hX : Ext (wr.drewN nq) X) => HMI.out X (hE.trans hX))
    have HBw := hide (fun X (hX : Ext (wr.drewN nq) X) => HB.out X (hE.trans hX))
    clear q1 q2 q3 HOWN HEJ HBR HON HMI HB hE HX2
    generalize wr.drewN nq = wd at *
    go_upto_region 7 with (fail)
    refine wp_region_rwz 41 [10, 11, 12] [5, 28, 29, 30, 31, 32, 33, 34, 35, 36, 37, 38, 39] (PhA1 W1.heap.size wd (.slice xa C.length xc) C mi) (fun (t : Nat) (wI : World) (v : Value) => match t with | 28 => v = (.slice xa C.length xc) | 29 => v = (.pointer (some ⟨b0, 2, none⟩)) | 30 => v = (.slice (some ⟨rb, ro, none⟩) c.R.length rc) | 31 => v = (.slice (some ⟨ib, io, none⟩) O.length ic) | 32 => v = (.int .i64 (j : Int)) | 33 => v = (.pointer (some ⟨ib, io + j, none⟩)) | 34 => v = (.int .i64 (i : Int)) | 35 => v = (.pointer (some ⟨rb, ro + i * 19, none⟩)) | 36 => v = (.pointer (some ⟨rb, ro + i * 19 + 4, none⟩)) | 37 => v = (.int .i64 mi) | _ => True) (fun _ _ => True) (by kernel_rfl) rfl (by kernel_rfl) (by kernel_rfl) (by kernel_rfl) (by kernel_rfl) ?_ ?_ ?_ ?_ ?_ ?_ ?_
    ·intro w' w'' h
     trivial
    ·intro t w' w'' v hR hv
     exact hv
    ·intro vs w' w'' h e
     exact h.keep e
    ·exact (Below.refl _ _).drew
    ·intro i o ho hmi vs X w' hpk hph hX hI hF K hK
     have hin : i < 13 := (Array.getElem?_eq_some_iff.1 ho).1
     have hi : i = 0 ∨ i = 1 ∨ i = 2 ∨ i = 3 ∨ i = 4 ∨ i = 5 ∨ i = 6 ∨ i = 7 ∨ i = 8 ∨ i = 9 ∨ i = 10 ∨ i = 11 ∨ i = 12 := by omega
     rcases hi with rfl | rfl | rfl | rfl | rfl | rfl | rfl | rfl | rfl | rfl | rfl | rfl | rfl
     ·obtain rfl := Option.some.inj ho
      have e5 : X 5 = (.slice xa C.length xc) := hF 5 (by kernel_rfl)
      unfold wpOp
      simp only [ho]
      rw [if_pos (by rfl)]
      left
      rw [frame41]
      go_simp
      refine metK (hK.out ((.slice xa C.length xc)) _ (Below.refl _ _) (fun d hd => by cases hd; exact rfl)) ?_
      simp [frame41, Act.put, *]
     ·obtain rfl := Option.some.inj ho
      have e2 : X 2 = (.pointer (some ⟨b0, 0, none⟩)) := hF 2 (by kernel_rfl)
      unfold wpOp
      simp only [ho]
      rw [if_pos (by rfl)]
      left
      rw [frame41]
      go_simp
      refine metK (hK.out ((.pointer (some ⟨b0, 2, none⟩))) _ (Below.refl _ _) (fun d hd => by cases hd; exact rfl)) ?_
      simp [frame41, Act.put, *]
     ·obtain rfl := Option.some.inj ho
      have e29 : X 29 = _ := hI 29 (by kernel_rfl) (by kernel_rfl)
      have hx := hph.x ((hpk 0 (by decide)).2 (by kernel_rfl))
      have q := HBRw.out w' hx
      unfold wpOp
      simp only [ho]
      rw [if_pos (by rfl)]
      left
      rw [frame41]
      go_simp
      refine metK (hK.out ((.slice (some ⟨rb, ro, none⟩) c.R.length rc)) _ (Below.refl _ _) (fun d hd => by cases hd; exact rfl)) ?_
      simp [frame41, Act.put, *]
     ·obtain rfl := Option.some.inj ho
      have e6 : X 6 = (.slice (some ⟨ib, io, none⟩) O.length ic) := hF 6 (by kernel_rfl)
      unfold wpOp
      simp only [ho]
      rw [if_pos (by rfl)]
      left
      rw [frame41]
      go_simp
      refine metK (hK.out ((.slice (some ⟨ib, io, none⟩) O.length ic)) _ (Below.refl _ _) (fun d hd => by cases hd; exact rfl)) ?_
      simp [frame41, Act.put, *]
     ·obtain rfl := Option.some.inj ho
      have e7 : X 7 = (.int .i64 (j : Int)) := hF 7 (by kernel_rfl)
      unfold wpOp
      simp only [ho]
      rw [if_pos (by rfl)]
      left
      rw [frame41]
      go_simp
      refine metK (hK.out ((.int .i64 (j : Int))) _ (Below.refl _ _) (fun d hd => by cases hd; exact rfl)) ?_
      simp [frame41, Act.put, *]
     ·obtain rfl := Option.some.inj ho
      have e31 : X 31 = _ := hI 31 (by kernel_rfl) (by kernel_rfl)
      have e32 : X 32 = _ := hI 32 (by kernel_rfl) (by kernel_rfl)
      unfold wpOp
      simp only [ho]
      rw [if_pos (by rfl)]
      left
      rw [frame41]
      go_simp
      refine metK (hK.out ((.pointer (some ⟨ib, io + j, none⟩))) _ (Below.refl _ _) (fun d hd => by cases hd; exact rfl)) ?_
      simp [frame41, Act.put, *]
     ·obtain rfl := Option.some.inj ho
      have e33 : X 33 = _ := hI 33 (by kernel_rfl) (by kernel_rfl)
      have hx := hph.x ((hpk 0 (by decide)).2 (by kernel_rfl))
      have q := HONw.out w' hx
      unfold wpOp
      simp only [ho]
      rw [if_pos (by rfl)]
      left
      rw [frame41]
      go_simp
      refine metK (hK.out ((.int .i64 (i : Int))) _ (Below.refl _ _) (fun d hd => by cases hd; exact rfl)) ?_
      simp [frame41, Act.put, *]
     ·obtain rfl := Option.some.inj ho
      have e30 : X 30 = _ := hI 30 (by kernel_rfl) (by kernel_rfl)
      have e34 : X 34 = _ := hI 34 (by kernel_rfl) (by kernel_rfl)
      unfold wpOp
      simp only [ho]
      rw [if_pos (by rfl)]
      left
      rw [frame41]
      go_simp
      refine metK (hK.out ((.pointer (some ⟨rb, ro + i * 19, none⟩))) _ (Below.refl _ _) (fun d hd => by cases hd; exact rfl)) ?_
      simp [frame41, Act.put, *]
     ·obtain rfl := Option.some.inj ho
      have e35 : X 35 = _ := hI 35 (by kernel_rfl) (by kernel_rfl)
      unfold wpOp
      simp only [ho]
      rw [if_pos (by rfl)]
      left
      rw [frame41]
      go_simp
      refine metK (hK.out ((.pointer (some ⟨rb, ro + i * 19 + 4, none⟩))) _ (Below.refl _ _) (fun d hd => by cases hd; exact rfl)) ?_
      simp [frame41, Act.put, *]
     ·obtain rfl := Option.some.inj ho
      have e36 : X 36 = _ := hI 36 (by kernel_rfl) (by kernel_rfl)
      have hx := hph.x ((hpk 0 (by decide)).2 (by kernel_rfl))
      have q := HMIw.out w' hx
      unfold wpOp
      simp only [ho]
      rw [if_pos (by rfl)]
      left
      rw [frame41]
      go_simp
      refine metK (hK.out ((.int .i64 mi)) _ (Below.refl _ _) (fun d hd => by cases hd; exact rfl)) ?_
      simp [frame41, Act.put, *]
     ·exact absurd hmi (by decide)
     ·exact absurd hmi (by decide)
     ·exact absurd hmi (by decide)
    ·intro i o ho hmi vs X w' hqi hql hph hX hI hF K hK
     rcases vs with _ | ⟨v0, _ | ⟨v1, _ | ⟨v2, _⟩⟩⟩
     ·obtain rfl : 10 = i := hqi
      obtain rfl := Option.some.inj ho
      have e37 : X 37 = _ := hI 37 (by kernel_rfl) (by kernel_rfl)
      have hx : Ext wd w' := hph
      unfold wpOp
      simp only [ho]
      rw [if_pos (by rfl)]
      left
      rw [frame41]
      go_simp
      refine metK (hK.out (.slice (some ⟨w'.heap.size, 0, none⟩) 1 1) _ ⟨w', hx, rfl, Below.refl _ _⟩ trivial) ?_
      simp [frame41, Act.put, *]
     ·obtain rfl : 11 = i := hqi
      obtain rfl := Option.some.inj ho
      have e28 : X 28 = _ := hI 28 (by kernel_rfl) (by kernel_rfl)
      have e38 : X 38 = v0 := hX 0 38 (by simp) (by kernel_rfl)
      obtain ⟨w8, h1, h2, h3⟩ := hph
      unfold wpOp
      simp only [ho]
      rw [if_pos (by rfl)]
      left
      rw [frame41]
      refine wp_append_sl (enc := encI) (.tmp 28) (.tmp 38) 22 rfl W1.heap.size 3 ii zi 1 8 Tryz.underlying22 hi0 hi1 hi2 hi3 hi4 (by decide) (fun _ => rfl) (.slice xa C.length xc) C.length (C.flatMap encI) (by simp [Act.eval, *]) (owns_ext HOW.out (Ext.trans h1 (Ext.trans (show Ext w8 (w8.alloc (.cells #[.int .i64 mi] 3)) from (Below.refl _ _).alloc (Nat.le_refl _) _) h3))) (.slice (some ⟨w8.heap.size, 0, none⟩) 1 1) (by simp [Act.eval, *]) [mi] (ints_lit1 h3) (ones_encI [mi]) (by have := HCL.out; unfold maxLen; simp; omega) (by have := HCL.out; simp; omega) (HBw.out w' (Ext.trans h1 (Ext.trans (show Ext w8 (w8.alloc (.cells #[.int .i64 mi] 3)) from (Below.refl _ _).alloc (Nat.le_refl _) _) h3))) (fun v' w9 ho9 hg9 => ?_)
      refine metK (hK.out v' w9 ⟨w', w9, Ext.trans h1 (Ext.trans (show Ext w8 (w8.alloc (.cells #[.int .i64 mi] 3)) from (Below.refl _ _).alloc (Nat.le_refl _) _) h3), hg9, by simpa using ho9, Below.refl _ _⟩ trivial) ?_
      simp [frame41, Act.put, *]
     ·obtain rfl : 12 = i := hqi
      obtain rfl := Option.some.inj ho
      have e39 : X 39 = v1 := hX 1 39 (by simp) (by kernel_rfl)
      unfold wpOp
      simp only [ho]
      rw [if_pos (by rfl)]
      left
      rw [frame41]
      go_simp
      obtain ⟨w7, w9, h1, hg, ho, h9⟩ := hph
      refine metK (hK.out v1 w' ⟨rfl, w7, w9, h1, hg, ho, h9⟩ trivial) ?_
      simp [frame41, Act.put, *]
     ·simp at hql <;> omega
    ·intro vs X w' hlen hph hX hI
     have e28 : X 28 = _ := hI 28 (by omega) (by kernel_rfl) (by kernel_rfl)
     have e29 : X 29 = _ := hI 29 (by omega) (by kernel_rfl) (by kernel_rfl)
     have e30 : X 30 = _ := hI 30 (by omega) (by kernel_rfl) (by kernel_rfl)
     have e31 : X 31 = _ := hI 31 (by omega) (by kernel_rfl) (by kernel_rfl)
     have e32 : X 32 = _ := hI 32 (by omega) (by kernel_rfl) (by kernel_rfl)
     have e33 : X 33 = _ := hI 33 (by omega) (by kernel_rfl) (by kernel_rfl)
     have e34 : X 34 = _ := hI 34 (by omega) (by kernel_rfl) (by kernel_rfl)
     have e35 : X 35 = _ := hI 35 (by omega) (by kernel_rfl) (by kernel_rfl)
     have e36 : X 36 = _ := hI 36 (by omega) (by kernel_rfl) (by kernel_rfl)
     have e37 : X 37 = _ := hI 37 (by omega) (by kernel_rfl) (by kernel_rfl)
     rcases vs with _ | ⟨v0, _ | ⟨v1, _ | ⟨v2, _ | ⟨vz, vs⟩⟩⟩⟩
     ·simp at hlen
     ·simp at hlen
     ·simp at hlen
     rotate_left
     ·simp at hlen
     have e5 : X 5 = v2 := hX 2 5 (by simp) (by kernel_rfl)
     have e38 : X 38 = v0 := hX 0 38 (by simp) (by kernel_rfl)
     have e39 : X 39 = v1 := hX 1 39 (by simp) (by kernel_rfl)
     clear hX hI hlen
     simp only [overF, List.foldl_cons, List.foldl_nil, List.setIfInBounds_toArray, List.set_cons_succ, List.set_cons_zero, e5, e28, e29, e30, e31, e32, e33, e34, e35, e36, e37, e38, e39]
     obtain ⟨rfl, w7, w9, h1, hg, ho, h9⟩ := hph
     have hkr : Keeps (fun q => (Value.slice xa C.length xc).ownBlock = some q) wd w' := (Keeps.of_ext h1).trans ((Keeps.of_grown hg (fun q h => h)).trans (Keeps.of_ext h9))
     have hown2 := owns_ext ho h9
     have HX3 := hide (Keeps.ext HEW.out hkr (fun q hq => (HOW.out.lt q hq).1))
     obtain ⟨ya, yc, rfl⟩ := owns_shape hown2
     have HO2 := hide hown2
     clear hg ho h9 h1 hkr hown2 e28 e29 e30 e31 e32 e33 e34 e35 e36 e37 e38 e39
     generalize w' = W9 at *
     go_wp2
     go_roundw
     case rel => exact ⟨j + 1, hlt, by go_num, ya, yc, by rw [HLN.out], hide (by rw [HLN.out, HSN.out, List.flatMap_append]; exact HO2.out), HX3.out⟩
     case measure => simp [intOf] <;> omega
  ·obtain rfl : j = M.length := by omega
   have hltz : ¬ ((M.length : Nat) : Int) < O.length := by omega
   rw [List.take_length] at HOWN
   rw [List.take_length]
   go_wp2
   go_ret
   exact ⟨_, rfl, owns_monoG HOWN.out (by have := (HX.out.trans HE1.out).size; omega), HX2.out⟩
end Go.Proofs.YtceaeiaoanhlnaaGreatDoor
namespace Go.Proofs.YtceaeiaoanhlnaaGreatDoor
open Go.ChangeShapes Go.WideShapes Go.ChangeAt Go.RowKit Go.Lib Go.Shelf
theorem encV_oneG {B : Nat} {w : World} {s : SvcD} (h : ∃ a n c, s.kv = .slice a n c) : ∀ u ∈ encV s, u.oneCell' = true := by
 obtain ⟨a, n, c, h⟩ := h
 intro u hu
 unfold encV at hu
 rw [h] at hu
 simp only [List.mem_cons, List.not_mem_nil, or_false] at hu
 rcases hu with rfl | rfl | rfl | rfl | rfl | rfl | rfl <;> rfl
set_option maxRecDepth 100000 in
set_option maxHeartbeats 16000000 in
/-- a service, by definition -/
theorem rsvc_any (c : ConfD) (id : Int) (w : World) (h : GC w c) :
  Calls Tryz.prog 28 #[.agg (encC c).toArray, .int .i64 id] w fun e w' => e = .returned (findS c.S id).val ∧ Ext w w' := by
 obtain ⟨cd, hcd1, hcd2⟩ := Tryz.confDesc
 obtain ⟨sd, hsd1, hsd2⟩ := Tryz.svcDesc
 have hsv := fun X (hX : Ext w X) => (h.ext hX).s
 have hsl := chk_S h.chk
 have hkv : ∀ s ∈ c.S, ∃ a n cc, s.kv = .slice a n cc := fun s hs => by
  obtain ⟨_, a, cc, e⟩ := (h.k s hs).shape
  exact ⟨a, _, cc, e⟩
 obtain ⟨_, ra, rc, hrv⟩ := h.s.shape
 rw [hrv] at hsv
 have HSV := hide hsv
 have HSL := hide hsl
 have HKV := hide hkv
 have HRV := hide hrv
 clear hsv hsl hkv h
 go_enter Tryz.func28, Tryz.ntmps28
 go_upto_region 1 with (fail)
 have hb4 := heap_second w (.cells (encC c).toArray 30) (.cells #[.int .i64 0, .slice none 0 0, .int .i64 0, .int .i64 0, .int .i64 0, .int .i64 0, .int .i64 0] 62 )
 have hx1 : Ext w (w.alloc (.cells (encC c).toArray 30)) := (Below.refl _ _).alloc (Nat.le_refl _) _
 have hb1 := heap_alloc_new w (.cells (encC c).toArray 30)
 have hx2 : Ext (w.alloc (.cells (encC c).toArray 30)) ((w.alloc (.cells (encC c).toArray 30)).alloc (.cells #[.int .i64 0, .slice none 0 0, .int .i64 0, .int .i64 0, .int .i64 0, .int .i64 0, .int .i64 0] 62 )) := (Below.refl _ _).alloc (Nat.le_refl _) _
 have hbb := (hx2.block _ (Array.getElem?_eq_some_iff.1 hb1).1).trans hb1
 have hx := hx1.trans hx2
 generalize (w.alloc (.cells (encC c).toArray 30)).alloc (.cells #[.int .i64 0, .slice none 0 0, .int .i64 0, .int .i64 0, .int .i64 0, .int .i64 0, .int .i64 0] 62 ) = W at hb4 hbb hx ⊢
 clear hx1 hb1 hx2
 obtain ⟨b0, hb0⟩ : ∃ b, w.heap.size = b := ⟨_, rfl⟩
 obtain ⟨b4, hb4e⟩ : ∃ b, w.heap.size + 1 = b := ⟨_, rfl⟩
 rw [hb4e] at hb4 ⊢
 rw [hb0] at hbb ⊢
 obtain ⟨Z, hZ⟩ : ∃ Z : Array Value, #[.int .i64 0, .slice none 0 0, .int .i64 0, .int .i64 0, .int .i64 0, .int .i64 0, .int .i64 0] = Z := ⟨_, rfl⟩
 rw [hZ] at hb4
 have HZS := hide (show Z.size = 7 by rw [← hZ]; rfl)
 have HG4 := hide (show w.heap.size ≤ b4 by omega)
 have HX := hide hx
 have HB4 := hide (fun X (hX : Ext W X) => (hX.block b4 (Array.getElem?_eq_some_iff.1 hb4).1).trans hb4)
 have HB4D := hide hb4
 have HBX := hide (fun X (hX : Ext W X) => (by
  have h1 := (hX.block b0 (Array.getElem?_eq_some_iff.1 hbb).1).trans hbb
  simp only [World.cell?, h1]
  exact congrArg some HRV.out : X.cell? ⟨b0, 0, none⟩ = some (.slice ra c.S.length rc)))
 clear hb4 hbb hx hb0 hb4e hZ
 go_wp2_with fail
 go_loopw [5] (fun v5 wr => ∃ k : Nat, k ≤ c.S.length ∧ v5 = .int .i64 k ∧ Hid (findS (c.S.drop k) id = findS c.S id) ∧ Ext W wr) (fun k _ => c.S.length - (intOf k).toNat)
 case atStart => exact ⟨0, Nat.zero_le _, rfl, hide rfl, Below.refl _ _⟩
 case round =>
  obtain ⟨k, hk, rfl, hf, hext⟩ := hrel
  have HF := hide hf.out
  have HE := hide hext
  clear hf hext
  have q0 := HBX.out wr HE.out
  by_cases hlt : k < c.S.length
  ·have hltz : (k : Int) < c.S.length := by omega
   have hwk : IntKind.i64.wrap ((k : Int) + 1) = ((k + 1 : Nat) : Int) := by have := HSL.out; rw [IntKind.wrap_i64]; omega
   obtain ⟨sb, so, rfl, hsb, hcell⟩ := sl_at (HSV.out wr (HX.out.trans HE.out)) k hlt
   have hfs : findS (c.S.drop k) id = if c.S[k].id = id then c.S[k] else findS (c.S.drop (k + 1)) id := by
    rw [List.drop_eq_getElem_cons hlt]
    unfold findS
    by_cases h0 : c.S[k].id = id
    ·rw [if_pos h0, List.find?_cons_of_pos (by simp [h0])]; rfl
    ·rw [if_neg h0, List.find?_cons_of_neg (by simp [h0])]
   have hkv := HKV.out c.S[k] (List.getElem_mem hlt)
   generalize c.S[k] = x at hcell hfs hkv
   have z0 : wr.cell? ⟨sb, so + k * 7, none⟩ = some (.int .i64 x.id) := hcell 0 _ rfl
   have hrg : wr.rangeAt sb (so + k * 7) (encV x) := fun j v hv => hcell j v hv
   have HRG := hide hrg
   have HKX := hide hkv
   clear hcell hrg hkv
   by_cases hid0 : x.id = id
   ·have hidb : (x.id == id) = true := by simp [hid0]
    rw [if_pos hid0, HF.out] at hfs
    have HFS := hide hfs
    clear hfs
    go_upto_region 5 with (fail)
    refine wp_region_lit ?_
    refine wpList_plain rfl fun Kq hKq => ?_
    go_simp
    refine hKq _ _ ?_
    clear hKq Kq
    refine wpList_plain rfl fun Kq hKq => ?_
    go_simp
    refine hKq _ _ ?_
    clear hKq Kq
    refine wpList_plain rfl fun Kq hKq => ?_
    go_simp
    refine hKq _ _ ?_
    clear hKq Kq
    refine wpList_plain rfl fun Kq hKq => ?_
    go_simp
    refine hKq _ _ ?_
    clear hKq Kq
    clear z0 hidb
    refine wpList_load_mid rfl 62 (.tmp 24) rfl sb (so + k * 7) rfl (encV x) sd HRG.out hsd1 hsd2 Tryz.svcSize ?_
    clear HRG
    have hth : wr.there b4 0 (encV x).toArray.size := fun q hq => by
     have hq' : q < 7 := hq
     rw [Nat.zero_add]
     refine ⟨?_, by simp only [World.frozen?]; rw [HB4.out wr HE.out]; simp⟩
     simp only [World.cell?, HB4.out wr HE.out]
     simp [hq', HZS.out]
    refine wpList_store_mid rfl 62 (.tmp 4) (.tmp 25) rfl b4 0 (encV x).toArray rfl rfl hth Tryz.svcSize (all_oneCell_toArray (encV_oneG (B := 0) (w := wr) HKX.out)) ?_
    refine wpList_nil ?_
    have hrs := World.rangeAt_setCells_same wr b4 0 (encV x) hth
    have hk5 := keeps_setCellsG b4 (encV x) 0 wr
    show Exit.then _ _ _ _ (wr.setCells b4 0 (encV x))
    generalize wr.setCells b4 0 (encV x) = W10 at hrs hk5 ⊢
    have HEF := hide (Keeps.ext (HX.out.trans HE.out) hk5 (fun g hg => by have := HG4.out; omega))
    have HRG := hide hrs
    clear hrs hk5 hth
    simp only [Act.put]
    go_wp2_with (fail)
    (try simp only [Exit.inBlock, Exit.then])
    refine bodyPost_ret (results_cell_mid rfl _ _ b4 0 (encV x) sd rfl HRG.out hsd1 hsd2 Tryz.svcSize) rfl ?_
    exact ⟨by rw [← HFS.out]; rfl, HEF.out⟩
   ·have hidb : (x.id == id) = false := by simp [hid0]
    rw [if_neg hid0, HF.out] at hfs
    have HFS := hide hfs.symm
    clear hfs HRG
    go_wp2
    go_roundw
    case rel => exact ⟨k + 1, hlt, by go_num, HFS, HE.out⟩
    case measure => simp [intOf] <;> omega
  ·obtain rfl : k = c.S.length := by omega
   have hltz : ¬ (c.S.length : Int) < c.S.length := by omega
   have hfn := HF.out
   rw [List.drop_length] at hfn
   have HFN := hide (show findS c.S id = svc0 from hfn.symm)
   clear hfn
   go_upto_region 6 with (fail)
   refine wp_region_lit ?_
   refine wpList_plain rfl fun Kq hKq => ?_
   go_simp
   refine hKq _ _ ?_
   clear hKq Kq
   show wpList _ _ _ _ _ _
   have hth : wr.there b4 0 (encV svc0).toArray.size := fun q hq => by
    have hq' : q < 7 := hq
    rw [Nat.zero_add]
    refine ⟨?_, by simp only [World.frozen?]; rw [HB4.out wr HE.out]; simp⟩
    simp only [World.cell?, HB4.out wr HE.out]
    simp [hq', HZS.out]
   refine wpList_store_mid rfl 62 (.tmp 4) (.tmp 26) rfl b4 0 (encV svc0).toArray rfl rfl hth Tryz.svcSize (all_oneCell_toArray (encV_oneG (B := 0) (w := wr) (s := svc0) ⟨_, _, _, rfl⟩)) ?_
   refine wpList_nil ?_
   have hrs := World.rangeAt_setCells_same wr b4 0 (encV svc0) hth
   have hk5 := keeps_setCellsG b4 (encV svc0) 0 wr
   show Exit.then _ _ _ _ (wr.setCells b4 0 (encV svc0))
   generalize wr.setCells b4 0 (encV svc0) = W10 at hrs hk5 ⊢
   have HEF := hide (Keeps.ext (HX.out.trans HE.out) hk5 (fun g hg => by have := HG4.out; omega))
   have HRG := hide hrs
   clear hrs hk5 hth
   simp only [Act.put]
   go_wp2_with (fail)
   (try simp only [Exit.inBlock, Exit.then])
   refine bodyPost_ret (results_cell_mid rfl _ _ b4 0 (encV svc0) sd rfl HRG.out hsd1 hsd2 Tryz.svcSize) rfl ?_
   exact ⟨by rw [HFN.out]; rfl, HEF.out⟩
end Go.Proofs.YtceaeiaoanhlnaaGreatDoor
namespace Go.Proofs.YtceaeiaoanhlnaaGreatDoor
open Go.ChangeShapes Go.WideShapes Go.ChangeAt Go.RowKit Go.Lib Go.Shelf
/-- the services of a rule's parts -/
def wtdP (P : List (Int × Int)) : List Int := (P.filter fun q => decide (0 < q.2)).map (·.1)
theorem svcsOf_next (M : List RuleD) (j : Nat) (hj : j < M.length) : svcsOf (M.take (j + 1)) = svcsOf (M.take j) ++ wtdP M[j].P := by
 unfold svcsOf
 rw [take_snoc M j hj, List.flatMap_append]
 simp [wtdP]
theorem wtdP_snoc (P : List (Int × Int)) (k : Nat) (hk : k < P.length) : wtdP (P.take (k + 1)) = wtdP (P.take k) ++ if 0 < P[k].2 then [P[k].1] else [] := by
 unfold wtdP
 rw [take_snoc P k hk, List.filter_append, List.map_append]
 congr 1
 by_cases h : 0 < P[k].2 <;> simp [h]
def hasS (M : List RuleD) (id : Int) : Bool := (svcsOf M).contains id
def hasW (P : List (Int × Int)) (id : Int) : Bool := (wtdP P).contains id
def idsTo (f : Int → Bool) (i : Nat) : List Int := ((List.range i).map fun i : Nat => (i : Int) + 1).filter f
theorem idsTo_snoc (f : Int → Bool) (i : Nat) : idsTo f (i + 1) = idsTo f i ++ if f ((i : Int) + 1) = true then [(i : Int) + 1] else [] := by
 unfold idsTo
 rw [List.range_succ, List.map_append, List.filter_append]
 congr 1
 by_cases h : f ((i : Int) + 1) = true <;> simp [h]
theorem idsTo_len (f : Int → Bool) (i : Nat) : (idsTo f i).length ≤ i := by
 unfold idsTo
 exact Nat.le_trans (List.length_filter_le _ _) (by simp)
set_option maxRecDepth 100000 in
set_option maxHeartbeats 16000000 in
/-- a path's services, by definition -/
theorem rser_any (c : ConfD) (p : ByteArray) (w : World) (h : GC w c) (hp : SzB p) :
  Calls Tryz.prog 29 #[.agg (encC c).toArray, .string p] w fun e w' => ∃ v, e = .returned v ∧ w'.ownsRow w.heap.size 3 1 v (targS c.R p).length ((targS c.R p).flatMap encI) ∧ Ext w w' := by
 obtain ⟨ii, zi, hi0, hi1, hi2, hi3, hi4⟩ := info_partsN gInfoI
 have hx : Ext w (w.alloc (.cells (encC c).toArray 30)) := (Below.refl _ _).alloc (Nat.le_refl _) _
 have hb1 := heap_alloc_new w (.cells (encC c).toArray 30)
 have hon := fun X (hX : Ext w X) => ron_any c.R p c.rv X (h.ext hX).r (h.ext hX).rk (chk_paths h.chk h.fit) hp (by have := chk_R h.chk; omega)
 have hru := fun X (hX : Ext w X) => (h.ext hX).r
 have hrk := fun X (hX : Ext w X) => (h.ext hX).rk
 have hpl := fun (r : RuleD) (hr : r ∈ c.R) => chk_parts h.chk hr
 have hrl := chk_R h.chk
 have hol := onRows_len c.R p
 have hoa := onL_at c.R p
 obtain ⟨_, ra, rc, hrv⟩ := h.r.shape
 rw [hrv] at hon hru
 have hfit : ∀ x ∈ svcsOf (onR c.R p), 1 ≤ x ∧ x ≤ 10 := fun x hx => targ_fit h.chk p x (List.mem_append_left _ ((Rg.ends_mem _ _).2 hx))
 rw [targS_ref c.R p hfit]
 have href : refS c.R p = idsTo (hasS (onR c.R p)) 10 := rfl
 rw [href]
 have hll : (onR c.R p).length ≤ c.R.length := by unfold onR; exact List.length_filter_le _ _
 clear hfit href
 generalize onR c.R p = M at hol hoa hll ⊢
 generalize onL c.R (bl p) c.R.length = O at hon hol hoa
 have HON0 := hide hon
 have HRU := hide hru
 have HRK := hide hrk
 have HPL := hide hpl
 have HRL := hide hrl
 have hO := hide hol
 have HOA := hide hoa
 have HLL := hide hll
 have HRV := hide hrv
 clear hon hru hrk hpl hrl hol hoa hll h hp
 go_enter Tryz.func29, Tryz.ntmps29
 go_upto_region 1 with (fail)
 show Code.wp _ _ _ _ (w.alloc (.cells (encC c).toArray 30))
 generalize w.alloc (.cells (encC c).toArray 30) = W at hx hb1 ⊢
 have HX := hide hx
 obtain ⟨b0, hb0⟩ : ∃ b, w.heap.size = b := ⟨_, rfl⟩
 rw [hb0] at hb1
 have HBX := hide (fun X (hX : Ext W X) => (by
  have h1 := (hX.block b0 (Array.getElem?_eq_some_iff.1 hb1).1).trans hb1
  simp only [World.cell?, h1]
  exact congrArg some HRV.out : X.cell? ⟨b0, 2, none⟩ = some (.slice ra c.R.length rc)))
 have q0 := HBX.out W (Below.refl _ _)
 clear hx hb1
 go_wp2_with fail
 refine (HON0.out W HX.out).mono ?_
 rintro e W1 ⟨v1, rfl, hio, E1⟩
 obtain ⟨hlo, ia, ic, rfl⟩ := hio.shape
 have HIO := hide hio
 have HE1 := hide E1
 clear hio E1 q0 HON0
 go_wp2_with fail
 go_loopw [5, 7] (fun v5 v7 wr => ∃ i : Nat, i ≤ 10 ∧ v7 = .int .i64 ((i : Int) + 1) ∧ ∃ xa xc, v5 = .slice xa (idsTo (hasS M) i).length xc ∧ Hid (wr.ownsRow W1.heap.size 3 1 (.slice xa (idsTo (hasS M) i).length xc) (idsTo (hasS M) i).length ((idsTo (hasS M) i).flatMap encI)) ∧ Ext W1 wr) (fun _ i _ => 12 - (intOf i).toNat)
 case atStart => exact ⟨0, Nat.zero_le _, rfl, none, 0, rfl, hide ⟨rfl, .inl ⟨rfl, rfl⟩⟩, Below.refl _ _⟩
 case round =>
  obtain ⟨i, hi10, rfl, xa, xc, rfl, hown, hext⟩ := hrel
  have HOWN := hide hown.out
  have HEI := hide hext
  clear hown hext
  by_cases hlt : i < 10
  ·have hltz : (i : Int) + 1 ≤ 10 := by omega
   have hwi : IntKind.i64.wrap ((i : Int) + 1 + 1) = ((i + 1 : Nat) : Int) + 1 := by rw [IntKind.wrap_i64]; omega
   obtain ⟨wi, rfl⟩ : ∃ x : World, x = wr := ⟨_, rfl⟩
   go_wp2_with fail
   go_loopw [8, 9] (fun v8 v9 wr2 => ∃ j : Nat, j ≤ M.length ∧ v9 = .int .i64 j ∧ v8 = .bool (hasS (M.take j) ((i : Int) + 1)) ∧ Ext wi wr2) (fun _ j _ => M.length - (intOf j).toNat)
   case atStart => exact ⟨0, Nat.zero_le _, rfl, rfl, Below.refl _ _⟩
   case round =>
    obtain ⟨j, hj, rfl, rfl, hext⟩ := hrel
    have HEJ := hide (HEI.out.trans hext)
    have HEJi := hide hext
    clear hext
    have hjo : (O.length : Int) = M.length := by rw [hO.out]
    by_cases hltj : j < M.length
    ·have hltjz : (j : Int) < O.length := by omega
     have hwj : IntKind.i64.wrap ((j : Int) + 1) = ((j + 1 : Nat) : Int) := by have := HLL.out; have := HRL.out; rw [IntKind.wrap_i64]; omega
     obtain ⟨q, hq, hoq, hmq⟩ := HOA.out j hltj
     have hqz : (q : Int) < c.R.length := by omega
     have hjO : j < O.length := by omega
     obtain ⟨ib, io, rfl, hib, hcq⟩ := ints_row HIO.out j hjO
     rw [show O[j] = (q : Int) by have := (List.getElem?_eq_some_iff.1 hoq).2; exact this] at hcq
     obtain ⟨rb, ro, rfl, hrb, hcell⟩ := sl_at (HRU.out W1 (HX.out.trans HE1.out)) q hq
     have hc3 := hcell 3 _ rfl
     have hsn : hasS (M.take (j + 1)) ((i : Int) + 1) = (hasS (M.take j) ((i : Int) + 1) || hasW c.R[q].P ((i : Int) + 1)) := by
      unfold hasS hasW
      rw [svcsOf_next M j hltj, hmq]
      simp [List.contains_eq_mem, List.mem_append]
     have hpr := (HRK.out W1 (HX.out.trans HE1.out) c.R[q] (List.getElem_mem hq)).2.1
     have hpn := HPL.out c.R[q] (List.getElem_mem hq)
     obtain ⟨_, pa, pc, hpv⟩ := hpr.shape
     rw [hpv] at hpr hc3
     generalize c.R[q].P = P at hsn hpr hpn hc3
     generalize hasS (M.take j) ((i : Int) + 1) = t at hsn ⊢
     have HSN := hide hsn
     have HPR := hide hpr
     have HPN := hide hpn
     clear hsn hpr hpn hpv hoq hmq hib hrb hcell
     have q1 := HBX.out wr (HE1.out.trans HEJ.out)
     have q2 := cell_ext HEJ.out hcq
     have q3 := cell_ext HEJ.out hc3
     clear hcq hc3
     go_wp2_with fail
     go_quiet (fail)
     rename_i nq
     have hE : Ext wr (wr.drewN nq) := Below.drewN' (Below.refl _ _) nq
     have HEW := hide (HEJ.out.trans hE)
     have HEWi := hide (HEJi.out.trans hE)
     clear q1 q2 q3 HEJ HEJi hE
     generalize wr.drewN nq = wj at *
     go_wp2_with fail
     go_loopw [8, 11] (fun v8 v11 wr3 => ∃ k : Nat, k ≤ P.length ∧ v11 = .int .i64 k ∧ v8 = .bool (t || hasW (P.take k) ((i : Int) + 1)) ∧ wr3 = wj) (fun _ k _ => P.length - (intOf k).toNat)
     case atStart => exact ⟨0, Nat.zero_le _, rfl, by simp [wtdP, hasW], rfl⟩
     case round =>
      obtain ⟨k, hk, rfl, rfl, rfl⟩ := hrel
      by_cases hltk : k < P.length
      ·have hltkz : (k : Int) < P.length := by omega
       have hwk : IntKind.i64.wrap ((k : Int) + 1) = ((k + 1 : Nat) : Int) := by have := HPN.out; rw [IntKind.wrap_i64]; omega
       obtain ⟨pb, po, rfl, hpb, hpc⟩ := sl_at (HPR.out.ext HEW.out) k hltk
       have hc0 := hpc 0 _ rfl
       have hc1 := hpc 1 _ rfl
       have hsk : (t || hasW (P.take (k + 1)) ((i : Int) + 1)) = (t || hasW (P.take k) ((i : Int) + 1) || (decide (P[k].1 = (i : Int) + 1) && decide (0 < P[k].2))) := by
        unfold hasW
        rw [wtdP_snoc P k hltk, Bool.or_assoc]
        congr 1
        by_cases h0 : 0 < P[k].2
        ·simp [h0, List.contains_eq_mem, List.mem_append, Bool.decide_or, eq_comm]
        ·simp [h0]
       generalize (t || hasW (P.take k) ((i : Int) + 1)) = u at hsk ⊢
       generalize P[k].1 = s at hc0 hsk
       generalize P[k].2 = g at hc1 hsk
       have HSK := hide hsk
       clear hsk hpc hpb
       rw [Nat.add_zero] at hc0
       cases u with
       | true =>
        go_wp2
        go_roundw
        case rel => exact ⟨k + 1, hltk, by go_num, by rw [HSK.out]; rfl, by first | trivial | rfl⟩
        case measure => simp [intOf] <;> omega
       | false =>
        by_cases hse : s = (i : Int) + 1
        ·have hseb : (s == (i : Int) + 1) = true := by simp [hse]
         by_cases hg0 : 0 < g
         ·have hg0b : decide (0 < g) = true := decide_eq_true hg0
          go_wp2
          go_roundw
          case rel => exact ⟨k + 1, hltk, by go_num, by rw [HSK.out]; simp [hse, hg0], by first | trivial | rfl⟩
          case measure => simp [intOf] <;> omega
         ·have hg0b : decide (0 < g) = false := decide_eq_false hg0
          go_wp2
          go_roundw
          case rel => exact ⟨k + 1, hltk, by go_num, by rw [HSK.out]; simp [hg0], by first | trivial | rfl⟩
          case measure => simp [intOf] <;> omega
        ·have hseb : (s == (i : Int) + 1) = false := by simp [hse]
         go_wp2
         go_roundw
         case rel => exact ⟨k + 1, hltk, by go_num, by rw [HSK.out]; simp [hse], by first | trivial | rfl⟩
         case measure => simp [intOf] <;> omega
      ·obtain rfl : k = P.length := by omega
       have hltkz : ¬ (P.length : Int) < P.length := by omega
       rw [List.take_length]
       go_wp2
       go_roundw
       case rel => exact ⟨j + 1, hltj, by go_num, by rw [HSN.out], HEWi.out⟩
       case measure => simp [intOf] <;> omega
    ·obtain rfl : j = M.length := by omega
     have hltjz : ¬ ((M.length : Nat) : Int) < O.length := by omega
     rw [List.take_length]
     have hsi := idsTo_snoc (hasS M) i
     have hil := idsTo_len (hasS M) i
     generalize hasS M ((i : Int) + 1) = t at hsi ⊢
     generalize idsTo (hasS M) i = C at hsi hil HOWN ⊢
     have HOW := hide (owns_ext HOWN.out HEJi.out)
     cases t with
     | false =>
      rw [if_neg (by decide), List.append_nil] at hsi
      have HSI := hide hsi
      clear hsi
      go_wp2
      go_roundw
      case rel => exact ⟨i + 1, hlt, by go_num, _, _, by rw [HSI.out], hide (by rw [HSI.out]; exact HOW.out), HEJ.out⟩
      case measure => simp [intOf] <;> omega
     | true =>
      rw [if_pos rfl] at hsi
      have HSI := hide hsi
      have hln : (idsTo (hasS M) (i + 1)).length = C.length + 1 := by rw [hsi]; simp
      have HLN := hide hln
      clear hsi hln
      go_upto_region 16 with (fail)
      refine wp_region_lit ?_
      refine wpList_plain rfl fun Kq hKq => ?_
      go_simp
      refine hKq _ _ ?_
      clear hKq Kq
      refine wpList_plain rfl fun Kq hKq => ?_
      go_simp
      refine hKq _ _ ?_
      clear hKq Kq
      refine wpList_plain rfl fun Kq hKq => ?_
      go_simp
      refine hKq _ _ ?_
      clear hKq Kq
      refine wpList_app1 rfl (.tmp 60) (.tmp 62) _ 3 rfl Tryz.underlying22 gInfoI (by decide) (by decide) W1.heap.size _ C.length (C.flatMap encI) rfl HOW.out [.int .i64 ((i : Int) + 1)] rfl (by simp [Value.oneCell']) rfl (by omega) HEJ.out.size ?_
      intro v' w2 ho2 hk2 hb2
      have HX3 := hide (Keeps.ext HEJ.out hk2 (fun q hq => (HOW.out.lt q hq).1))
      obtain ⟨ya, yc, rfl⟩ := owns_shape ho2
      have HO2 := hide ho2
      clear ho2 hk2 hb2
      refine wpList_plain rfl fun Kq hKq => ?_
      go_simp
      refine hKq _ _ ?_
      clear hKq Kq
      refine wpList_nil ?_
      go_wp2
      go_roundw
      case rel => exact ⟨i + 1, hlt, by go_num, ya, yc, by rw [HLN.out], hide (by rw [HLN.out, HSI.out, List.flatMap_append]; exact HO2.out), HX3.out⟩
      case measure => simp [intOf] <;> omega
  ·obtain rfl : i = 10 := by omega
   have hltz : ¬ ((10 : Nat) : Int) + 1 ≤ 10 := by omega
   go_wp2
   go_ret
   refine ⟨_, rfl, owns_monoG HOWN.out ?_, HX.out.trans (HE1.out.trans HEI.out)⟩
   have := (HX.out.trans HE1.out).size
   omega
end Go.Proofs.YtceaeiaoanhlnaaGreatDoor
