
/- ref04.One (printed by wip/gen_one.py). -/
import Derived.Test.YtopejlachgompaaGreatDoorGnH
namespace Go.Proofs.YtopejlachgompaaGreatDoor
open Go.ChangeShapes Go.WideShapes Go.ChangeAt Go.RowKit Go.Lib Go.Shelf
def nm10L : List ByteArray := [⟨#[97]⟩, ⟨#[98]⟩, ⟨#[120, 45, 117, 115, 101, 114]⟩, ⟨#[118, 50]⟩, ⟨#[104, 111, 115, 116]⟩, ⟨#[113]⟩, ⟨#[99, 45, 51]⟩, ⟨#[116, 114, 97, 99, 101]⟩, ⟨#[122]⟩, ⟨#[121, 49]⟩]
def nm10 (d : Nat) : ByteArray := nm10L.getD d ⟨#[]⟩
theorem nm10_cell {w : World} {g : Nat} (h : w.heap[g]? = some (Obj.cells #[.string ⟨#[97]⟩, .string ⟨#[98]⟩, .string ⟨#[120, 45, 117, 115, 101, 114]⟩, .string ⟨#[118, 50]⟩, .string ⟨#[104, 111, 115, 116]⟩, .string ⟨#[113]⟩, .string ⟨#[99, 45, 51]⟩, .string ⟨#[116, 114, 97, 99, 101]⟩, .string ⟨#[122]⟩, .string ⟨#[121, 49]⟩] 9 (0, 0))) (d : Nat) (hd : d < 10) : w.cell? ⟨g, d, none⟩ = some (.string (nm10 d)) := by
 simp only [World.cell?, h]
 rcases (by omega : d = 0 ∨ d = 1 ∨ d = 2 ∨ d = 3 ∨ d = 4 ∨ d = 5 ∨ d = 6 ∨ d = 7 ∨ d = 8 ∨ d = 9) with rfl | rfl | rfl | rfl | rfl | rfl | rfl | rfl | rfl | rfl <;> rfl
theorem nm10_size (d : Nat) (hd : d < 10) : (nm10 d).size ≤ 20 := by
 rcases (by omega : d = 0 ∨ d = 1 ∨ d = 2 ∨ d = 3 ∨ d = 4 ∨ d = 5 ∨ d = 6 ∨ d = 7 ∨ d = 8 ∨ d = 9) with rfl | rfl | rfl | rfl | rfl | rfl | rfl | rfl | rfl | rfl <;> decide
def vl8L : List ByteArray := [⟨#[]⟩, ⟨#[49]⟩, ⟨#[50]⟩, ⟨#[98, 101, 116, 97]⟩, ⟨#[97, 32, 98]⟩, ⟨#[120, 58, 49, 58, 121]⟩, ⟨#[126]⟩, ⟨#[52, 50]⟩]
def vl8 (d : Nat) : ByteArray := vl8L.getD d ⟨#[]⟩
theorem vl8_cell {w : World} {g : Nat} (h : w.heap[g]? = some (Obj.cells #[.string ⟨#[]⟩, .string ⟨#[49]⟩, .string ⟨#[50]⟩, .string ⟨#[98, 101, 116, 97]⟩, .string ⟨#[97, 32, 98]⟩, .string ⟨#[120, 58, 49, 58, 121]⟩, .string ⟨#[126]⟩, .string ⟨#[52, 50]⟩] 9 (0, 0))) (d : Nat) (hd : d < 8) : w.cell? ⟨g, d, none⟩ = some (.string (vl8 d)) := by
 simp only [World.cell?, h]
 rcases (by omega : d = 0 ∨ d = 1 ∨ d = 2 ∨ d = 3 ∨ d = 4 ∨ d = 5 ∨ d = 6 ∨ d = 7) with rfl | rfl | rfl | rfl | rfl | rfl | rfl | rfl <;> rfl
theorem vl8_size (d : Nat) (hd : d < 8) : (vl8 d).size ≤ 20 := by
 rcases (by omega : d = 0 ∨ d = 1 ∨ d = 2 ∨ d = 3 ∨ d = 4 ∨ d = 5 ∨ d = 6 ∨ d = 7) with rfl | rfl | rfl | rfl | rfl | rfl | rfl | rfl <;> decide
/-- the phases of a head that is laid in a box of its own -/
def PhO (W : World) (d1 d2 : Nat) : List Value → World → Prop
 | [], w' => Ext W w'
 | [v], w' => ∃ g, v = .pointer (some ⟨g, 0, none⟩) ∧ W.heap.size ≤ g ∧ w'.heap[g]? = some (.cells #[.string ⟨#[]⟩, .string ⟨#[]⟩] 110 (0, 0)) ∧ Ext W w'
 | [v, _], w' => ∃ g, v = .pointer (some ⟨g, 0, none⟩) ∧ W.heap.size ≤ g ∧ w'.heap[g]? = some (.cells #[.string (nm10 d1), .string (vl8 d2)] 110 (0, 0)) ∧ Ext W w'
 | _, _ => False
theorem PhO.ext {W : World} {d1 d2 : Nat} {vs : List Value} {w' w'' : World} (h : PhO W d1 d2 vs w') (e : Ext w' w'') : PhO W d1 d2 vs w'' := by
 rcases vs with _ | ⟨v, _ | ⟨u, _ | ⟨z, vs⟩⟩⟩
 ·exact Ext.trans h e
 ·obtain ⟨g, h1, h2, h3, h4⟩ := h
  exact ⟨g, h1, h2, (e.block g (Array.getElem?_eq_some_iff.1 h3).1).trans h3, h4.trans e⟩
 ·obtain ⟨g, h1, h2, h3, h4⟩ := h
  exact ⟨g, h1, h2, (e.block g (Array.getElem?_eq_some_iff.1 h3).1).trans h3, h4.trans e⟩
 ·exact h.elim
theorem frame27 (x : Nat → Value) : frameOf 27 x = #[x 0, x 1, x 2, x 3, x 4, x 5, x 6, x 7, x 8, x 9, x 10, x 11, x 12, x 13, x 14, x 15, x 16, x 17, x 18, x 19, x 20, x 21, x 22, x 23, x 24, x 25, x 26] := rfl
theorem Tryz.headDesc0 : (Tryz.prog.underlying 110).map TypeDesc.isRow = some true := by kernel_rfl
theorem Tryz.headDesc : ∃ d, Tryz.prog.underlying 110 = some d ∧ d.isRow = true := by
 have h := Tryz.headDesc0
 revert h
 cases Tryz.prog.underlying 110 with
 | none => intro h; cases h
 | some d => intro h; exact ⟨d, rfl, by simpa using h⟩
theorem Tryz.headSize : (Tryz.prog.info? 110).map (·.size) = some 2 := by kernel_rfl
set_option maxRecDepth 100000 in
set_option maxHeartbeats 16000000 in
theorem one_any (n : Int) (w : World) (hn : I64 n) :
  Calls Tryz.prog 42 #[.int .i64 n] w fun e w' => ∃ s t, e = .returned (.agg #[.string s, .string t]) ∧ s.size ≤ 100 ∧ t.size ≤ 100 ∧ Ext w w' := by
 have har := fun X => around_any n 100000 X hn (by omega)
 have hbd := around_bd n 100000 (by omega)
 obtain ⟨k, hk⟩ : ∃ k : Nat, around n 100000 = k := Int.eq_ofNat_of_zero_le hbd.1
 rw [hk] at har hbd
 have hkl : k < 100000 := by omega
 have HAR := hide har
 have hdc := fun X => decimal_any 5 k X (by omega) (by omega)
 have z1 : (k : Int).tmod 10 = ((k % 10 : Nat) : Int) := by rw [Int.tmod_eq_emod_of_nonneg (by omega)]; omega
 have z2 : (k : Int).tdiv 10 = ((k / 10 : Nat) : Int) := by rw [Int.tdiv_eq_ediv_of_nonneg (by omega)]; omega
 have z3 : ((k / 10 : Nat) : Int).tmod 8 = ((k / 10 % 8 : Nat) : Int) := by rw [Int.tmod_eq_emod_of_nonneg (by omega)]; omega
 have z4 : (k : Int).tmod 37 = ((k % 37 : Nat) : Int) := by rw [Int.tmod_eq_emod_of_nonneg (by omega)]; omega
 obtain ⟨r37, hr37⟩ : ∃ q, k % 37 = q := ⟨_, rfl⟩
 obtain ⟨d2, hd2⟩ : ∃ q, k / 10 % 8 = q := ⟨_, rfl⟩
 obtain ⟨q2, hq2⟩ : ∃ q, k / 10 = q := ⟨_, rfl⟩
 obtain ⟨d1, hd1⟩ : ∃ q, k % 10 = q := ⟨_, rfl⟩
 have hl1 : d1 < 10 := by omega
 have hl2 : d2 < 8 := by omega
 have hq2l : q2 < 100000 := by omega
 have wzq : IntKind.i64.wrap (q2 : Int) = (q2 : Int) := IntWalk.i64_in _ (by omega)
 rw [hd1] at z1
 rw [hd2, hq2] at z3
 rw [hq2] at z2
 rw [hr37] at z4
 have HD := hide hdc
 clear har hbd hk hdc hr37 hd1 hd2 hq2
 go_enter Tryz.func42, Tryz.ntmps42
 go_wp2_with fail
 refine (HAR.out _).mono ?_
 rintro e w1 ⟨rfl, rfl⟩
 have hb := heap_alloc_new w (.cells #[.string ⟨#[]⟩, .string ⟨#[]⟩] 110)
 have hex : Ext w (w.alloc (.cells #[.string ⟨#[]⟩, .string ⟨#[]⟩] 110)) := (Below.refl _ w).alloc (Nat.le_refl _) _
 go_upto_region 2 with (fail)
 generalize w.alloc (.cells #[.string ⟨#[]⟩, .string ⟨#[]⟩] 110) = W1 at *
 have HB := hide hb
 have HEX := hide hex
 clear hb hex
 refine wp_region_rx 27 [12, 13] (PhO W1 d1 d2) (fun (t : Nat) (wI : World) (v : Value) => match t with | 0 => v = .int .i64 n | 2 => v = .pointer (some ⟨w.heap.size, 0, none⟩) | 3 => v = .int .i64 k | 7 => ∃ g, v = .slice (some ⟨g, 0, none⟩) 10 10 ∧ wI.heap[g]? = some (Obj.cells #[.string ⟨#[97]⟩, .string ⟨#[98]⟩, .string ⟨#[120, 45, 117, 115, 101, 114]⟩, .string ⟨#[118, 50]⟩, .string ⟨#[104, 111, 115, 116]⟩, .string ⟨#[113]⟩, .string ⟨#[99, 45, 51]⟩, .string ⟨#[116, 114, 97, 99, 101]⟩, .string ⟨#[122]⟩, .string ⟨#[121, 49]⟩] 9 (0, 0)) | 8 => v = .int .i64 k | 9 => v = .int .i64 d1 | 10 => ∃ g, v = .pointer (some ⟨g, d1, none⟩) ∧ wI.heap[g]? = some (Obj.cells #[.string ⟨#[97]⟩, .string ⟨#[98]⟩, .string ⟨#[120, 45, 117, 115, 101, 114]⟩, .string ⟨#[118, 50]⟩, .string ⟨#[104, 111, 115, 116]⟩, .string ⟨#[113]⟩, .string ⟨#[99, 45, 51]⟩, .string ⟨#[116, 114, 97, 99, 101]⟩, .string ⟨#[122]⟩, .string ⟨#[121, 49]⟩] 9 (0, 0)) | 11 => v = .string (nm10 d1) | 12 => ∃ g, v = .slice (some ⟨g, 0, none⟩) 8 8 ∧ wI.heap[g]? = some (Obj.cells #[.string ⟨#[]⟩, .string ⟨#[49]⟩, .string ⟨#[50]⟩, .string ⟨#[98, 101, 116, 97]⟩, .string ⟨#[97, 32, 98]⟩, .string ⟨#[120, 58, 49, 58, 121]⟩, .string ⟨#[126]⟩, .string ⟨#[52, 50]⟩] 9 (0, 0)) | 13 => v = .int .i64 k | 14 => v = .int .i64 q2 | 15 => v = .int .i64 d2 | 16 => ∃ g, v = .pointer (some ⟨g, d2, none⟩) ∧ wI.heap[g]? = some (Obj.cells #[.string ⟨#[]⟩, .string ⟨#[49]⟩, .string ⟨#[50]⟩, .string ⟨#[98, 101, 116, 97]⟩, .string ⟨#[97, 32, 98]⟩, .string ⟨#[120, 58, 49, 58, 121]⟩, .string ⟨#[126]⟩, .string ⟨#[52, 50]⟩] 9 (0, 0)) | 17 => v = .string (vl8 d2) | 18 => v = .agg #[.string (nm10 d1), .string (vl8 d2)] | _ => True) (fun (w' w'' : World) => ∀ (g : Nat) (cs : Array Value) (fr : Nat × Nat), w'.heap[g]? = some (Obj.cells cs 9 fr) → w''.heap[g]? = some (Obj.cells cs 9 fr)) (by kernel_rfl) rfl (by kernel_rfl) (by kernel_rfl) (by kernel_rfl) ?_ ?_ ?_ ?_ ?_ ?_ ?_ ?_
 ·intro w' w'' h g cs fr hg
  exact (h.block g (Array.getElem?_eq_some_iff.1 hg).1).trans hg
 ·intro t w' w'' v hR hv
  split at hv <;> first | exact hv | (obtain ⟨g, hv1, hg⟩ := hv; exact ⟨g, hv1, hR g _ _ hg⟩)
 ·intro vs w' w'' h hE
  exact h.ext hE
 ·exact (Below.refl _ _).drew
 ·intro t ht hno
  split <;> first | exact True.intro | exact rfl | exact absurd (hno.symm.trans (by kernel_rfl) : true = false) (by decide)
 ·intro i o ho hmi vs X w' hpk hph hX hI K hK
  have hin : i < 14 := (Array.getElem?_eq_some_iff.1 ho).1
  have hi : i = 0 ∨ i = 1 ∨ i = 2 ∨ i = 3 ∨ i = 4 ∨ i = 5 ∨ i = 6 ∨ i = 7 ∨ i = 8 ∨ i = 9 ∨ i = 10 ∨ i = 11 ∨ i = 12 ∨ i = 13 := by omega
  rcases hi with rfl | rfl | rfl | rfl | rfl | rfl | rfl | rfl | rfl | rfl | rfl | rfl | rfl | rfl
  ·obtain rfl := Option.some.inj ho
   unfold wpOp
   simp only [ho]
   rw [if_pos (by rfl)]
   left
   rw [frame27]
   go_simp
   refine metK (hK.out (.slice (some ⟨w'.heap.size, 0, none⟩) 10 10) _ ((Below.refl _ w').alloc (Nat.le_refl _) _) (fun d hd => by cases hd; exact ⟨_, rfl, heap_alloc_new w' _⟩)) ?_
   simp [frame27, Act.put, *]
  ·obtain rfl := Option.some.inj ho
   have e3 : X 3 = .int .i64 k := hI 3 (by kernel_rfl)
   unfold wpOp
   simp only [ho]
   rw [if_pos (by rfl)]
   left
   rw [frame27]
   go_simp
   refine metK (hK.out (.int .i64 k) _ (Below.refl _ _) (fun d hd => by cases hd; exact rfl)) ?_
   simp [frame27, Act.put, *]
  ·obtain rfl := Option.some.inj ho
   have e8 : X 8 = .int .i64 k := hI 8 (by kernel_rfl)
   unfold wpOp
   simp only [ho]
   rw [if_pos (by rfl)]
   left
   rw [frame27]
   go_simp
   refine metK (hK.out (.int .i64 d1) _ (Below.refl _ _) (fun d hd => by cases hd; exact rfl)) ?_
   simp [frame27, Act.put, *]
  ·obtain rfl := Option.some.inj ho
   have y7 := hI 7 (by kernel_rfl)
   have e9 : X 9 = .int .i64 d1 := hI 9 (by kernel_rfl)
   obtain ⟨g, e7, hg⟩ := y7
   have hd1z : (d1 : Int) < 10 := by omega
   unfold wpOp
   simp only [ho]
   rw [if_pos (by rfl)]
   left
   rw [frame27]
   go_simp
   refine metK (hK.out (.pointer (some ⟨g, d1, none⟩)) _ (Below.refl _ _) (fun d hd => by cases hd; exact ⟨g, rfl, hg⟩)) ?_
   simp [frame27, Act.put, *]
  ·obtain rfl := Option.some.inj ho
   have y10 := hI 10 (by kernel_rfl)
   obtain ⟨g, e10, hg⟩ := y10
   have c0 : w'.cell? ⟨g, d1, none⟩ = some (.string (nm10 d1)) := nm10_cell hg d1 hl1
   unfold wpOp
   simp only [ho]
   rw [if_pos (by rfl)]
   left
   rw [frame27]
   go_simp
   refine metK (hK.out (.string (nm10 d1)) _ (Below.refl _ _) (fun d hd => by cases hd; exact rfl)) ?_
   simp [frame27, Act.put, *]
  ·obtain rfl := Option.some.inj ho
   unfold wpOp
   simp only [ho]
   rw [if_pos (by rfl)]
   left
   rw [frame27]
   go_simp
   refine metK (hK.out (.slice (some ⟨w'.heap.size, 0, none⟩) 8 8) _ ((Below.refl _ w').alloc (Nat.le_refl _) _) (fun d hd => by cases hd; exact ⟨_, rfl, heap_alloc_new w' _⟩)) ?_
   simp [frame27, Act.put, *]
  ·obtain rfl := Option.some.inj ho
   have e3 : X 3 = .int .i64 k := hI 3 (by kernel_rfl)
   unfold wpOp
   simp only [ho]
   rw [if_pos (by rfl)]
   left
   rw [frame27]
   go_simp
   refine metK (hK.out (.int .i64 k) _ (Below.refl _ _) (fun d hd => by cases hd; exact rfl)) ?_
   simp [frame27, Act.put, *]
  ·obtain rfl := Option.some.inj ho
   have e13 : X 13 = .int .i64 k := hI 13 (by kernel_rfl)
   unfold wpOp
   simp only [ho]
   rw [if_pos (by rfl)]
   left
   rw [frame27]
   go_simp
   refine metK (hK.out (.int .i64 q2) _ (Below.refl _ _) (fun d hd => by cases hd; exact rfl)) ?_
   simp [frame27, Act.put, *]
  ·obtain rfl := Option.some.inj ho
   have e14 : X 14 = .int .i64 q2 := hI 14 (by kernel_rfl)
   unfold wpOp
   simp only [ho]
   rw [if_pos (by rfl)]
   left
   rw [frame27]
   go_simp
   refine metK (hK.out (.int .i64 d2) _ (Below.refl _ _) (fun d hd => by cases hd; exact rfl)) ?_
   simp [frame27, Act.put, *]
  ·obtain rfl := Option.some.inj ho
   have y12 := hI 12 (by kernel_rfl)
   have e15 : X 15 = .int .i64 d2 := hI 15 (by kernel_rfl)
   obtain ⟨g, e12, hg⟩ := y12
   have hd2z : (d2 : Int) < 8 := by omega
   unfold wpOp
   simp only [ho]
   rw [if_pos (by rfl)]
   left
   rw [frame27]
   go_simp
   refine metK (hK.out (.pointer (some ⟨g, d2, none⟩)) _ (Below.refl _ _) (fun d hd => by cases hd; exact ⟨g, rfl, hg⟩)) ?_
   simp [frame27, Act.put, *]
  ·obtain rfl := Option.some.inj ho
   have y16 := hI 16 (by kernel_rfl)
   obtain ⟨g, e16, hg⟩ := y16
   have c0 : w'.cell? ⟨g, d2, none⟩ = some (.string (vl8 d2)) := vl8_cell hg d2 hl2
   unfold wpOp
   simp only [ho]
   rw [if_pos (by rfl)]
   left
   rw [frame27]
   go_simp
   refine metK (hK.out (.string (vl8 d2)) _ (Below.refl _ _) (fun d hd => by cases hd; exact rfl)) ?_
   simp [frame27, Act.put, *]
  ·obtain rfl := Option.some.inj ho
   have e11 : X 11 = .string (nm10 d1) := hI 11 (by kernel_rfl)
   have e17 : X 17 = .string (vl8 d2) := hI 17 (by kernel_rfl)
   unfold wpOp
   simp only [ho]
   rw [if_pos (by rfl)]
   left
   rw [frame27]
   go_simp
   refine metK (hK.out (.agg #[.string (nm10 d1), .string (vl8 d2)]) _ (Below.refl _ _) (fun d hd => by cases hd; exact rfl)) ?_
   simp [frame27, Act.put, *]
  ·exact absurd hmi (by decide)
  ·exact absurd hmi (by decide)
 ·intro i o ho hmi vs X w' hqi hql hph hX hI K hK
  rcases vs with _ | ⟨v0, _ | ⟨v1, _⟩⟩
  ·obtain rfl : 12 = i := hqi
   obtain rfl := Option.some.inj ho
   unfold wpOp
   simp only [ho]
   rw [if_pos (by rfl)]
   left
   rw [frame27]
   go_simp
   refine metK (hK.out (.pointer (some ⟨w'.heap.size, 0, none⟩)) _ ⟨w'.heap.size, rfl, hph.size, heap_alloc_new w' _, hph.trans ((Below.refl _ w').alloc (Nat.le_refl _) _)⟩ (fun g cs fr hg => (Below.heap_alloc _ _ _ (Array.getElem?_eq_some_iff.1 hg).1).trans hg)) ?_
   simp [frame27, Act.put, *]
  ·obtain rfl : 13 = i := hqi
   obtain rfl := Option.some.inj ho
   have e4 : X 4 = v0 := hX 0 4 (by simp) (by kernel_rfl)
   have e18 : X 18 = .agg #[.string (nm10 d1), .string (vl8 d2)] := hI 18 (by kernel_rfl)
   obtain ⟨g, rfl, hg1, hg2, hE1⟩ := hph
   have c0 : w'.cell? ⟨g, 0, none⟩ = some (.string ⟨#[]⟩) := ArrB.cell hg2 0 _ rfl
   have c1 : w'.cell? ⟨g, 1, none⟩ = some (.string ⟨#[]⟩) := ArrB.cell hg2 1 _ rfl
   have z0 := ArrB.frozen hg2 0
   have z1 := ArrB.frozen hg2 1
   unfold wpOp
   simp only [ho]
   rw [if_pos (by rfl)]
   left
   rw [frame27]
   go_simp
   refine metK (hK.out undef _ ⟨g, rfl, hg1, ArrB.set (ArrB.set hg2 0 (.string (nm10 d1))) 1 (.string (vl8 d2)), Below.setCell (Below.setCell hE1 hg1 _) hg1 _⟩ (fun g' cs fr hg' => by have hne : g' ≠ g := (fun e => by subst e; rw [hg2] at hg'; cases hg'); exact (Below.heap_setCell _ _ _ _ hne).trans ((Below.heap_setCell _ _ _ _ hne).trans hg'))) ?_
   simp [frame27, Act.put, *]
  ·simp at hql <;> omega
 ·intro vs X w' hlen hph hX hI
  have e0 : X 0 = .int .i64 n := hI 0 (by omega) (by kernel_rfl)
  have e2 : X 2 = .pointer (some ⟨w.heap.size, 0, none⟩) := hI 2 (by omega) (by kernel_rfl)
  have e3 : X 3 = .int .i64 k := hI 3 (by omega) (by kernel_rfl)
  have y7 := hI 7 (by omega) (by kernel_rfl)
  have e8 : X 8 = .int .i64 k := hI 8 (by omega) (by kernel_rfl)
  have e9 : X 9 = .int .i64 d1 := hI 9 (by omega) (by kernel_rfl)
  have y10 := hI 10 (by omega) (by kernel_rfl)
  have e11 : X 11 = .string (nm10 d1) := hI 11 (by omega) (by kernel_rfl)
  have y12 := hI 12 (by omega) (by kernel_rfl)
  have e13 : X 13 = .int .i64 k := hI 13 (by omega) (by kernel_rfl)
  have e14 : X 14 = .int .i64 q2 := hI 14 (by omega) (by kernel_rfl)
  have e15 : X 15 = .int .i64 d2 := hI 15 (by omega) (by kernel_rfl)
  have y16 := hI 16 (by omega) (by kernel_rfl)
  have e17 : X 17 = .string (vl8 d2) := hI 17 (by omega) (by kernel_rfl)
  have e18 : X 18 = .agg #[.string (nm10 d1), .string (vl8 d2)] := hI 18 (by omega) (by kernel_rfl)
  rcases vs with _ | ⟨v0, _ | ⟨v1, _ | ⟨vz, vs⟩⟩⟩
  ·simp at hlen
  ·simp at hlen
  rotate_left
  ·simp at hlen
  have e4 : X 4 = v0 := hX 0 4 (by simp) (by kernel_rfl)
  clear hX hI hlen
  rw [frame27]
  simp only [e0, e2, e3, e4, e8, e9, e11, e13, e14, e15, e17, e18]
  obtain ⟨g, rfl, hg1, hg2, hE1⟩ := hph
  have hb2 := (hE1.block _ (Array.getElem?_eq_some_iff.1 HB.out).1).trans HB.out
  have hgw : w.heap.size < W1.heap.size := (Array.getElem?_eq_some_iff.1 HB.out).1
  have hne : w.heap.size ≠ g := by omega
  have hEw := HEX.out.trans hE1
  have hn1 : (nm10 d1).size ≤ 100 := by have := nm10_size d1 hl1; omega
  have hv1 : (vl8 d2).size ≤ 100 := by have := vl8_size d2 hl2; omega
  have HN1 := hide hn1
  have hEw' : Ext w w' := hEw
  generalize nm10 d1 = s1 at *
  generalize vl8 d2 = s2 at *
  have c0 : w'.cell? ⟨g, 0, none⟩ = some (.string s1) := ArrB.cell hg2 0 _ rfl
  have c1 : w'.cell? ⟨g, 1, none⟩ = some (.string s2) := ArrB.cell hg2 1 _ rfl
  have HB2 := hide hb2
  have HEW := hide hEw'
  have HG2 := hide hg2
  have hgb : w.heap.size ≤ g := by omega
  have HGB := hide hgb
  have HNE := hide hne
  clear hb2 hEw hEw' hE1 hg2 hg1 hgw hn1 y7 y12 y10 y16 e18 hgb hne HB HEX
  generalize w' = W5 at *
  by_cases h5 : r37 = 5
  ·have HDC := HD.out
   have h5z : (r37 : Int) = 5 := by omega
   go_wp2_with fail
   refine (HDC W5).mono ?_
   rintro e w6 ⟨s, rfl, hs, E6⟩
   have hg6 := (E6.block _ (Array.getElem?_eq_some_iff.1 HG2.out).1).trans HG2.out
   have hb6 := (E6.block _ (Array.getElem?_eq_some_iff.1 HB2.out).1).trans HB2.out
   have z0 : w6.cell? ⟨g, 0, none⟩ = some (.string s1) := ArrB.cell hg6 0 _ rfl
   have z1 : w6.cell? ⟨g, 1, none⟩ = some (.string s2) := ArrB.cell hg6 1 _ rfl
   have zf := ArrB.frozen hg6 1
   have hs9 : s.size ≤ 9 := by omega
   have hE6 := HEW.out.trans E6
   clear HEW HG2 HB2 c0 c1 hv1 E6 hs HDC HD
   go_upto_region 5 with (fail)
   have hs50 : (s ++ ⟨#[46, 46, 46, 46, 46, 46, 46, 46, 46, 46, 46, 46, 46, 46, 46, 46, 46, 46, 46, 46, 46, 46, 46, 46, 46, 46, 46, 46, 46, 46, 46, 46, 46, 46, 46, 46, 46, 46, 46, 46]⟩).size ≤ 100 := by
    rw [ByteArray.size_append]
    have : (⟨#[46, 46, 46, 46, 46, 46, 46, 46, 46, 46, 46, 46, 46, 46, 46, 46, 46, 46, 46, 46, 46, 46, 46, 46, 46, 46, 46, 46, 46, 46, 46, 46, 46, 46, 46, 46, 46, 46, 46, 46]⟩ : ByteArray).size = 40 := rfl
    omega
   generalize s ++ ⟨#[46, 46, 46, 46, 46, 46, 46, 46, 46, 46, 46, 46, 46, 46, 46, 46, 46, 46, 46, 46, 46, 46, 46, 46, 46, 46, 46, 46, 46, 46, 46, 46, 46, 46, 46, 46, 46, 46, 46, 46]⟩ = s9 at *
   have hb7 := (Below.heap_setCell w6 ⟨g, 1, none⟩ (.string s9) w.heap.size HNE.out).trans hb6
   have hE7 := Below.setCell (p := ⟨g, 1, none⟩) hE6 HGB.out (.string s9)
   have hg7 := ArrB.set hg6 1 (.string s9)
   generalize w6.setCell ⟨g, 1, none⟩ (.string s9) = W7 at *
   have HB2 := hide hb7
   have HEW := hide hE7
   have HG2 := hide hg7
   have HS9 := hide hs50
   clear hb7 hE7 hg7 hs50 hg6 hb6 hE6 z0 z1 zf hs9
   have c0 : W7.cell? ⟨g, 0, none⟩ = some (.string s1) := ArrB.cell HG2.out 0 _ rfl
   have c1 : W7.cell? ⟨g, 1, none⟩ = some (.string s9) := ArrB.cell HG2.out 1 _ rfl
   have f0 : W7.cell? ⟨w.heap.size, 0, none⟩ = some (.string ⟨#[]⟩) := ArrB.cell HB2.out 0 _ rfl
   have f1 : W7.cell? ⟨w.heap.size, 1, none⟩ = some (.string ⟨#[]⟩) := ArrB.cell HB2.out 1 _ rfl
   have y0 := ArrB.frozen HB2.out 0
   have y1 := ArrB.frozen HB2.out 1
   have hset := ArrB.set (ArrB.set HB2.out 0 (.string s1)) 1 (.string s9)
   have HSET := hide hset
   have HEF := hide (Below.setCell (p := ⟨w.heap.size, 1, none⟩) (Below.setCell (p := ⟨w.heap.size, 0, none⟩) HEW.out (Nat.le_refl _) (.string s1)) (Nat.le_refl _) (.string s9))
   clear hset
   obtain ⟨dm, hdm1, hdm2⟩ := Tryz.headDesc
   go_wp2_with fail
   (try simp only [Exit.inBlock, Exit.then])
   refine bodyPost_ret (results_cell_mid rfl _ _ w.heap.size 0 [.string s1, .string s9] dm rfl ?_ hdm1 hdm2 Tryz.headSize) rfl ?_
   ·intro j v hv
    rw [Nat.zero_add]
    exact ArrB.cell HSET.out j v (by simpa using hv)
   ·exact ⟨s1, s9, rfl, HN1.out, HS9.out, HEF.out⟩
  ·have h5z : ¬ (r37 : Int) = 5 := by omega
   have HS9 := hide hv1
   clear c0 c1 hv1
   have c0 : W5.cell? ⟨g, 0, none⟩ = some (.string s1) := ArrB.cell HG2.out 0 _ rfl
   have c1 : W5.cell? ⟨g, 1, none⟩ = some (.string s2) := ArrB.cell HG2.out 1 _ rfl
   have f0 : W5.cell? ⟨w.heap.size, 0, none⟩ = some (.string ⟨#[]⟩) := ArrB.cell HB2.out 0 _ rfl
   have f1 : W5.cell? ⟨w.heap.size, 1, none⟩ = some (.string ⟨#[]⟩) := ArrB.cell HB2.out 1 _ rfl
   have y0 := ArrB.frozen HB2.out 0
   have y1 := ArrB.frozen HB2.out 1
   have hset := ArrB.set (ArrB.set HB2.out 0 (.string s1)) 1 (.string s2)
   have HSET := hide hset
   have HEF := hide (Below.setCell (p := ⟨w.heap.size, 1, none⟩) (Below.setCell (p := ⟨w.heap.size, 0, none⟩) HEW.out (Nat.le_refl _) (.string s1)) (Nat.le_refl _) (.string s2))
   clear hset
   obtain ⟨dm, hdm1, hdm2⟩ := Tryz.headDesc
   go_wp2_with fail
   (try simp only [Exit.inBlock, Exit.then])
   refine bodyPost_ret (results_cell_mid rfl _ _ w.heap.size 0 [.string s1, .string s2] dm rfl ?_ hdm1 hdm2 Tryz.headSize) rfl ?_
   ·intro j v hv
    rw [Nat.zero_add]
    exact ArrB.cell HSET.out j v (by simpa using hv)
   ·exact ⟨s1, s2, rfl, HN1.out, HS9.out, HEF.out⟩
end Go.Proofs.YtopejlachgompaaGreatDoor
