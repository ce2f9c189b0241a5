
/- match.Cmp. -/
import Derived.Deep.Cut
import Derived.Test.YtlaaapfpchnmeaaGreatDoorMtC
import Derived.Test.YtlaaapfpchnmeaaGreatDoorZa
namespace Go.Proofs.YtlaaapfpchnmeaaGreatDoor
open Go.ChangeShapes Go.WideShapes Go.ChangeAt Go.RowKit Go.Lib Go.Shelf
/-- what match.Cmp tells of two threes -/
def cmp3 (a b : Int × Int × Int) : Int :=
  if a.1 < b.1 then 1 else if b.1 < a.1 then -1 else
  if a.2.1 < b.2.1 then 1 else if b.2.1 < a.2.1 then -1 else
  if a.2.2 < b.2.2 then 1 else if b.2.2 < a.2.2 then -1 else 0
def rk3 (mp : ByteArray) (ex : Bool) (n : Nat) : Int × Int × Int := (rk0 ex, rk1 (bl mp), n)
def cmpI (a b : Int) : Int := if a < b then -1 else if b < a then 1 else 0
theorem metK {K : Act → World → Prop} {a b : Act} {w : World} (h : K b w) (e : b = a) : K a w := e ▸ h
/-- a fresh block of cells, that a pointer shows -/
def ArrB (T : TypeId) (W w : World) (v : Value) (c : Array Value) : Prop := ∃ g, v = .pointer (some ⟨g, 0, none⟩) ∧ W.heap.size ≤ g ∧ g < w.heap.size ∧ w.heap[g]? = some (.cells c T)
theorem ArrB.ext {T : TypeId} {W w w' : World} {v : Value} {c : Array Value} (h : ArrB T W w v c) (e : Ext w w') : ArrB T W w' v c := by
  obtain ⟨g, h1, h2, h3, h4⟩ := h
  exact ⟨g, h1, h2, Nat.lt_of_lt_of_le h3 e.size, (e.block g h3).trans h4⟩
theorem ArrB.new {T : TypeId} {W w : World} (c : Array Value) (e : Ext W w) : ArrB T W (w.alloc (.cells c T)) (.pointer (some ⟨w.heap.size, 0, none⟩)) c :=
  ⟨w.heap.size, rfl, e.size, by simp, by show (w.heap.push _)[w.heap.size]? = _; simp⟩
theorem ArrB.cell {T : TypeId} {w : World} {g : Nat} {c : Array Value} (h : w.heap[g]? = some (.cells c T)) (j : Nat) (u : Value) (hu : c[j]? = some u) : w.cell? ⟨g, j, none⟩ = some u := by
  rw [World.cell?]
  simp only [h]
  exact hu
theorem ArrB.frozen {T : TypeId} {w : World} {g : Nat} {c : Array Value} (h : w.heap[g]? = some (.cells c T)) (j : Nat) : w.frozen? ⟨g, j, none⟩ = false := by
  rw [World.frozen?]
  simp [h]
theorem ArrB.set {T : TypeId} {w : World} {g : Nat} {c : Array Value} (h : w.heap[g]? = some (.cells c T)) (j : Nat) (u : Value) : (w.setCell ⟨g, j, none⟩ u).heap[g]? = some (.cells (c.setIfInBounds j u) T) := by
  simp only [World.setCell, Array.getElem?_modify, h]
  simp
theorem ArrB.set_other {T : TypeId} {w : World} {g k : Nat} {c : Array Value} (h : w.heap[k]? = some (.cells c T)) (j : Nat) (u : Value) (hne : g ≠ k) : (w.setCell ⟨g, j, none⟩ u).heap[k]? = some (.cells c T) := by
  simp only [World.setCell, Array.getElem?_modify, h]
  simp [hne]
theorem frame28 (x : Nat → Value) : frameOf 28 x = #[x 0, x 1, x 2, x 3, x 4, x 5, x 6, x 7, x 8, x 9, x 10, x 11, x 12, x 13, x 14, x 15, x 16, x 17, x 18, x 19, x 20, x 21, x 22, x 23, x 24, x 25, x 26, x 27] := rfl
set_option maxRecDepth 100000 in
set_option maxHeartbeats 2000000 in
theorem cmp_any (mp mq : ByteArray) (ex ey : Bool) (a b : Option Addr) (n c n2 c2 : Nat) (w : World) :
    Calls Tryz.prog 18 #[.agg #[.string mp, .bool ex, .slice a n c], .agg #[.string mq, .bool ey, .slice b n2 c2]] w fun e w' => e = .returned (.int .i64 (cmp3 (rk3 mp ex n) (rk3 mq ey n2))) ∧ Ext w w' := by
  have h1 : ∀ X : World, Calls Tryz.prog 34 #[.agg #[.string mp, .bool ex, .slice a n c]] X fun e w' => e = .returned (.agg #[.int .i64 (rk0 ex), .int .i64 (rk1 (bl mp)), .int .i64 n]) ∧ Ext X w' := rank_any mp ex a n c
  have h2 : ∀ X : World, Calls Tryz.prog 34 #[.agg #[.string mq, .bool ey, .slice b n2 c2]] X fun e w' => e = .returned (.agg #[.int .i64 (rk0 ey), .int .i64 (rk1 (bl mq)), .int .i64 n2]) ∧ Ext X w' := rank_any mq ey b n2 c2
  unfold rk3
  obtain ⟨x0, hx0⟩ : ∃ x, rk0 ex = x := ⟨_, rfl⟩
  obtain ⟨x1, hx1⟩ : ∃ x, rk1 (bl mp) = x := ⟨_, rfl⟩
  obtain ⟨x2, hx2⟩ : ∃ x : Int, n = x := ⟨_, rfl⟩
  obtain ⟨y0, hy0⟩ : ∃ x, rk0 ey = x := ⟨_, rfl⟩
  obtain ⟨y1, hy1⟩ : ∃ x, rk1 (bl mq) = x := ⟨_, rfl⟩
  obtain ⟨y2, hy2⟩ : ∃ x : Int, n2 = x := ⟨_, rfl⟩
  simp only [hx0, hx1, hx2, hy0, hy1, hy2] at h1 h2 ⊢
  have H1 := hide h1
  have H2 := hide h2
  clear h1 h2 hx0 hx1 hx2 hy0 hy1 hy2
  go_enter Tryz.func18, Tryz.ntmps18
  go_wp2_with fail
  go_cut [5, 6] from 14 (fun s5 s6 w' => ∃ g k, s5 = .pointer (some ⟨g, 0, none⟩) ∧ s6 = .pointer (some ⟨k, 0, none⟩) ∧ Ext w w' ∧ w'.cell? ⟨g, 0, none⟩ = some (.int .i64 x0) ∧ w'.cell? ⟨g, 1, none⟩ = some (.int .i64 x1) ∧ w'.cell? ⟨g, 2, none⟩ = some (.int .i64 x2) ∧ w'.cell? ⟨k, 0, none⟩ = some (.int .i64 y0) ∧ w'.cell? ⟨k, 1, none⟩ = some (.int .i64 y1) ∧ w'.cell? ⟨k, 2, none⟩ = some (.int .i64 y2))
  case first =>
    have hcx : ∀ X, Ext ((w.alloc (.cells #[.string mp, .bool ex, .slice a n c] 43)).alloc (.cells #[.string mq, .bool ey, .slice b n2 c2] 43)) X → X.cell? ⟨w.heap.size, 0, none⟩ = some (.string mp) ∧ X.cell? ⟨w.heap.size, 1, none⟩ = some (.bool ex) ∧ X.cell? ⟨w.heap.size, 2, none⟩ = some (.slice a n c) ∧ X.cell? ⟨w.heap.size + 1, 0, none⟩ = some (.string mq) ∧ X.cell? ⟨w.heap.size + 1, 1, none⟩ = some (.bool ey) ∧ X.cell? ⟨w.heap.size + 1, 2, none⟩ = some (.slice b n2 c2) :=
      fun X hX => ⟨(hX.cell (p := ⟨w.heap.size, 0, none⟩) (by simp; omega)).trans (by go_simp), (hX.cell (p := ⟨w.heap.size, 1, none⟩) (by simp; omega)).trans (by go_simp), (hX.cell (p := ⟨w.heap.size, 2, none⟩) (by simp; omega)).trans (by go_simp), (hX.cell (p := ⟨w.heap.size + 1, 0, none⟩) (by simp)).trans (by go_simp), (hX.cell (p := ⟨w.heap.size + 1, 1, none⟩) (by simp)).trans (by go_simp), (hX.cell (p := ⟨w.heap.size + 1, 2, none⟩) (by simp)).trans (by go_simp)⟩
    have HCX := hide hcx
    have HE0 := hide ((((Below.refl _ w).alloc (Nat.le_refl _) _).alloc (by simp) _) : Ext w ((w.alloc (.cells #[.string mp, .bool ex, .slice a n c] 43)).alloc (.cells #[.string mq, .bool ey, .slice b n2 c2] 43)))
    generalize hW : ((w.alloc (.cells #[.string mp, .bool ex, .slice a n c] 43)).alloc (.cells #[.string mq, .bool ey, .slice b n2 c2] 43)) = W at *
    clear hcx hW
    refine wp_region_inv 28 (fun L x w' => Ext W w' ∧ (x 0 = .agg #[.string mp, .bool ex, .slice a n c] ∧ x 1 = .agg #[.string mq, .bool ey, .slice b n2 c2] ∧ x 2 = .pointer (some ⟨w.heap.size, 0, none⟩) ∧ x 3 = .pointer (some ⟨w.heap.size + 1, 0, none⟩) ∧ x 4 = .int .i64 0 ∧ x 7 = undef ∧ x 8 = undef ∧ x 9 = undef) ∧
      (L 0 = true → x 10 = .agg #[.string mp, .bool ex, .slice a n c]) ∧ (L 1 = true → x 11 = .agg #[.int .i64 x0, .int .i64 x1, .int .i64 x2]) ∧ (L 2 = true → x 12 = .agg #[.string mq, .bool ey, .slice b n2 c2]) ∧ (L 3 = true → x 13 = .agg #[.int .i64 y0, .int .i64 y1, .int .i64 y2]) ∧
      (L 4 = true → ArrB 74 W w' (x 5) (if L 6 = true then #[.int .i64 x0, .int .i64 x1, .int .i64 x2] else #[.int .i64 0, .int .i64 0, .int .i64 0])) ∧
      (L 5 = true → ArrB 74 W w' (x 6) (if L 7 = true then #[.int .i64 y0, .int .i64 y1, .int .i64 y2] else #[.int .i64 0, .int .i64 0, .int .i64 0])) ∧
      (L 4 = true → L 5 = true → x 5 ≠ x 6) ∧ (L 6 = true → L 4 = true) ∧ (L 7 = true → L 5 = true)) (by kernel_rfl) rfl (by kernel_rfl) ?_ ?_ ?_
    · refine ⟨(Below.refl _ _).drew, ⟨rfl, rfl, rfl, rfl, rfl, rfl, rfl, rfl⟩, ?_⟩
      simp
    · intro i o ho L x w' hJ hLi hLb K hK
      obtain ⟨hE, ⟨f0, f1, f2, f3, f4, f7, f8, f9⟩, j0, j1, j2, j3, j4, j5, j45, j6, j7⟩ := hJ
      have hi8 : i < 8 := (Array.getElem?_eq_some_iff.1 ho).1
      have HF := hide (⟨f0, f1, f2, f3, f4, f7, f8, f9⟩ : _ ∧ _ ∧ _ ∧ _ ∧ _ ∧ _ ∧ _ ∧ _)
      have HJ0 := hide j0
      have HJ1 := hide j1
      have HJ2 := hide j2
      have HJ3 := hide j3
      have HJ4 := hide j4
      have HJ5 := hide j5
      have HJ45 := hide j45
      have HJ6 := hide j6
      have HJ7 := hide j7
      clear j0 j1 j2 j3 j4 j5 j45 j6 j7
      rcases (by omega : i = 0 ∨ i = 1 ∨ i = 2 ∨ i = 3 ∨ i = 4 ∨ i = 5 ∨ i = 6 ∨ i = 7) with rfl | rfl | rfl | rfl | rfl | rfl | rfl | rfl
      · obtain ⟨d1, d2, d3, -, -, -⟩ := HCX.out _ hE
        obtain rfl := Option.some.inj ho
        unfold wpOp
        simp only [ho]
        rw [if_pos (by rfl)]
        left
        rw [frame28]
        go_simp
        refine metK (hK.out (.agg #[.string mp, .bool ex, .slice a n c]) _ ?_) ?_
        · refine ⟨hE, by simpa [putX] using HF.out, by simp [putX], by simpa [putX] using HJ1.out, by simpa [putX] using HJ2.out, by simpa [putX] using HJ3.out, by simpa [putX] using HJ4.out, by simpa [putX] using HJ5.out, by simpa [putX] using HJ45.out, by simpa [putX] using HJ6.out, by simpa [putX] using HJ7.out⟩
        · simp [frame28, Act.put, *]
      · have e10 := HJ0.out (hLb 0 (by decide))
        obtain rfl := Option.some.inj ho
        unfold wpOp
        simp only [ho]
        rw [if_pos (by rfl)]
        left
        rw [frame28]
        go_simp
        refine (H1.out _).mono ?_
        rintro e w8 ⟨rfl, E8⟩
        refine metK (hK.out (.agg #[.int .i64 x0, .int .i64 x1, .int .i64 x2]) _ ?_) ?_
        · refine ⟨hE.trans E8, by simpa [putX] using HF.out, by simpa [putX] using HJ0.out, by simp [putX], by simpa [putX] using HJ2.out, by simpa [putX] using HJ3.out, by simpa [putX] using fun h => (HJ4.out h).ext E8, by simpa [putX] using fun h => (HJ5.out h).ext E8, by simpa [putX] using HJ45.out, by simpa [putX] using HJ6.out, by simpa [putX] using HJ7.out⟩
        · simp [frame28, Act.put, *]
      · obtain ⟨-, -, -, d1, d2, d3⟩ := HCX.out _ hE
        obtain rfl := Option.some.inj ho
        unfold wpOp
        simp only [ho]
        rw [if_pos (by rfl)]
        left
        rw [frame28]
        go_simp
        refine metK (hK.out (.agg #[.string mq, .bool ey, .slice b n2 c2]) _ ?_) ?_
        · refine ⟨hE, by simpa [putX] using HF.out, by simpa [putX] using HJ0.out, by simpa [putX] using HJ1.out, by simp [putX], by simpa [putX] using HJ3.out, by simpa [putX] using HJ4.out, by simpa [putX] using HJ5.out, by simpa [putX] using HJ45.out, by simpa [putX] using HJ6.out, by simpa [putX] using HJ7.out⟩
        · simp [frame28, Act.put, *]
      · have e12 := HJ2.out (hLb 2 (by decide))
        obtain rfl := Option.some.inj ho
        unfold wpOp
        simp only [ho]
        rw [if_pos (by rfl)]
        left
        rw [frame28]
        go_simp
        refine (H2.out _).mono ?_
        rintro e w8 ⟨rfl, E8⟩
        refine metK (hK.out (.agg #[.int .i64 y0, .int .i64 y1, .int .i64 y2]) _ ?_) ?_
        · refine ⟨hE.trans E8, by simpa [putX] using HF.out, by simpa [putX] using HJ0.out, by simpa [putX] using HJ1.out, by simpa [putX] using HJ2.out, by simp [putX], by simpa [putX] using fun h => (HJ4.out h).ext E8, by simpa [putX] using fun h => (HJ5.out h).ext E8, by simpa [putX] using HJ45.out, by simpa [putX] using HJ6.out, by simpa [putX] using HJ7.out⟩
        · simp [frame28, Act.put, *]
      · have hL6 : L 6 = false := by
          cases h : L 6 with
          | false => rfl
          | true => rw [HJ6.out h] at hLi; cases hLi
        obtain rfl := Option.some.inj ho
        unfold wpOp
        simp only [ho]
        rw [if_pos (by rfl)]
        left
        rw [frame28]
        go_simp
        have hA := ArrB.new (T := 74) #[.int .i64 0, .int .i64 0, .int .i64 0] hE
        have eA : Ext w' (w'.alloc (.cells #[.int .i64 0, .int .i64 0, .int .i64 0] 74)) := (Below.refl _ _).alloc (Nat.le_refl _) _
        refine metK (hK.out (.pointer (some ⟨w'.heap.size, 0, none⟩)) _ ?_) ?_
        · refine ⟨hE.trans eA, by simpa [putX] using HF.out, by simpa [putX] using HJ0.out, by simpa [putX] using HJ1.out, by simpa [putX] using HJ2.out, by simpa [putX] using HJ3.out, fun _ => by simpa [putX, hL6] using hA, by simpa [putX] using fun h => (HJ5.out h).ext eA, ?_, fun _ => by simp, by simpa [putX] using HJ7.out⟩
          intro _ h5
          obtain ⟨g, hg, -, hlt, -⟩ := HJ5.out (by simpa using h5)
          simp [putX, hg]
          try omega
        · simp [frame28, Act.put, *]
      · have hL7 : L 7 = false := by
          cases h : L 7 with
          | false => rfl
          | true => rw [HJ7.out h] at hLi; cases hLi
        obtain rfl := Option.some.inj ho
        unfold wpOp
        simp only [ho]
        rw [if_pos (by rfl)]
        left
        rw [frame28]
        go_simp
        have hA := ArrB.new (T := 74) #[.int .i64 0, .int .i64 0, .int .i64 0] hE
        have eA : Ext w' (w'.alloc (.cells #[.int .i64 0, .int .i64 0, .int .i64 0] 74)) := (Below.refl _ _).alloc (Nat.le_refl _) _
        refine metK (hK.out (.pointer (some ⟨w'.heap.size, 0, none⟩)) _ ?_) ?_
        · refine ⟨hE.trans eA, by simpa [putX] using HF.out, by simpa [putX] using HJ0.out, by simpa [putX] using HJ1.out, by simpa [putX] using HJ2.out, by simpa [putX] using HJ3.out, by simpa [putX] using fun h => (HJ4.out h).ext eA, fun _ => by simpa [putX, hL7] using hA, ?_, by simpa [putX] using HJ6.out, fun _ => by simp⟩
          intro h4 _
          obtain ⟨g, hg, -, hlt, -⟩ := HJ4.out (by simpa using h4)
          simp [putX, hg]
          try omega
        · simp [frame28, Act.put, *]
      · have e11 := HJ1.out (hLb 1 (by decide))
        obtain ⟨g, e5, hg1, hg2, hg3⟩ := HJ4.out (hLb 4 (by decide))
        simp only [hLi, Bool.false_eq_true, if_false] at hg3
        have d0 := ArrB.cell hg3 0 _ rfl
        have d1 := ArrB.cell hg3 1 _ rfl
        have d2 := ArrB.cell hg3 2 _ rfl
        have z0 := ArrB.frozen hg3 0
        have z1 := ArrB.frozen hg3 1
        have z2 := ArrB.frozen hg3 2
        obtain rfl := Option.some.inj ho
        unfold wpOp
        simp only [ho]
        rw [if_pos (by rfl)]
        left
        rw [frame28]
        go_simp
        have hset := ArrB.set (ArrB.set (ArrB.set hg3 0 (.int .i64 x0)) 1 (.int .i64 x1)) 2 (.int .i64 x2)
        have hbb : Ext W (((w'.setCell ⟨g, 0, none⟩ (.int .i64 x0)).setCell ⟨g, 1, none⟩ (.int .i64 x1)).setCell ⟨g, 2, none⟩ (.int .i64 x2)) := Below.setCell (Below.setCell (Below.setCell hE hg1 _) hg1 _) hg1 _
        refine metK (hK.out undef _ ?_) ?_
        · refine ⟨hbb, by simpa [putX] using HF.out, by simpa [putX] using HJ0.out, by simpa [putX] using HJ1.out, by simpa [putX] using HJ2.out, by simpa [putX] using HJ3.out, ?_, ?_, by simpa [putX] using HJ45.out, ?_, ?_⟩
          · intro _
            simp only [BEq.rfl, Bool.true_or, if_true, putX]
            exact ⟨g, by simpa using e5, hg1, by simpa [World.setCell] using hg2, by simpa using hset⟩
          · intro h5
            obtain ⟨k, e6, hk1, hk2, hk3⟩ := HJ5.out (by simpa using h5)
            have hne : g ≠ k := fun e => HJ45.out (hLb 4 (by decide)) (by simpa using h5) (by rw [e5, e6, e])
            refine ⟨k, by simpa [putX] using e6, hk1, by simpa [World.setCell] using hk2, ?_⟩
            have := ArrB.set_other (ArrB.set_other (ArrB.set_other hk3 0 (.int .i64 x0) hne) 1 (.int .i64 x1) hne) 2 (.int .i64 x2) hne
            simpa using this
          · intro _
            simpa using hLb 4 (by decide)
          · simpa using HJ7.out
        · simp [frame28, Act.put, *]
      · have e13 := HJ3.out (hLb 3 (by decide))
        obtain ⟨g, e6, hg1, hg2, hg3⟩ := HJ5.out (hLb 5 (by decide))
        simp only [hLi, Bool.false_eq_true, if_false] at hg3
        have d0 := ArrB.cell hg3 0 _ rfl
        have d1 := ArrB.cell hg3 1 _ rfl
        have d2 := ArrB.cell hg3 2 _ rfl
        have z0 := ArrB.frozen hg3 0
        have z1 := ArrB.frozen hg3 1
        have z2 := ArrB.frozen hg3 2
        obtain rfl := Option.some.inj ho
        unfold wpOp
        simp only [ho]
        rw [if_pos (by rfl)]
        left
        rw [frame28]
        go_simp
        have hset := ArrB.set (ArrB.set (ArrB.set hg3 0 (.int .i64 y0)) 1 (.int .i64 y1)) 2 (.int .i64 y2)
        have hbb : Ext W (((w'.setCell ⟨g, 0, none⟩ (.int .i64 y0)).setCell ⟨g, 1, none⟩ (.int .i64 y1)).setCell ⟨g, 2, none⟩ (.int .i64 y2)) := Below.setCell (Below.setCell (Below.setCell hE hg1 _) hg1 _) hg1 _
        refine metK (hK.out undef _ ?_) ?_
        · refine ⟨hbb, by simpa [putX] using HF.out, by simpa [putX] using HJ0.out, by simpa [putX] using HJ1.out, by simpa [putX] using HJ2.out, by simpa [putX] using HJ3.out, ?_, ?_, by simpa [putX] using HJ45.out, ?_, ?_⟩
          · intro h4
            obtain ⟨k, e5, hk1, hk2, hk3⟩ := HJ4.out (by simpa using h4)
            have hne : g ≠ k := fun e => HJ45.out (by simpa using h4) (hLb 5 (by decide)) (by rw [e5, e6, e])
            refine ⟨k, by simpa [putX] using e5, hk1, by simpa [World.setCell] using hk2, ?_⟩
            have := ArrB.set_other (ArrB.set_other (ArrB.set_other hk3 0 (.int .i64 y0) hne) 1 (.int .i64 y1) hne) 2 (.int .i64 y2) hne
            simpa using this
          · intro _
            simp only [BEq.rfl, Bool.true_or, if_true, putX]
            exact ⟨g, by simpa using e6, hg1, by simpa [World.setCell] using hg2, by simpa using hset⟩
          · simpa using HJ6.out
          · intro _
            simpa using hLb 5 (by decide)
        · simp [frame28, Act.put, *]
    · intro L x w' hJ hL
      obtain ⟨hE, ⟨f0, f1, f2, f3, f4, f7, f8, f9⟩, -, -, -, -, j4, j5, -, -, -⟩ := hJ
      have l6 := hL 6 (by decide)
      have l7 := hL 7 (by decide)
      obtain ⟨g, e5, hg1, hg2, hg3⟩ := j4 (hL 4 (by decide))
      obtain ⟨k, e6, hk1, hk2, hk3⟩ := j5 (hL 5 (by decide))
      simp only [l6, l7, if_true] at hg3 hk3
      rw [frame28, f0, f1, f2, f3, f4, f7, f8, f9]
      have HR := hide (⟨g, k, e5, e6, Ext.trans HE0.out hE, ArrB.cell hg3 0 _ rfl, ArrB.cell hg3 1 _ rfl, ArrB.cell hg3 2 _ rfl, ArrB.cell hk3 0 _ rfl, ArrB.cell hk3 1 _ rfl, ArrB.cell hk3 2 _ rfl⟩ : ∃ g k, x 5 = .pointer (some ⟨g, 0, none⟩) ∧ x 6 = .pointer (some ⟨k, 0, none⟩) ∧ Ext w w' ∧ w'.cell? ⟨g, 0, none⟩ = some (.int .i64 x0) ∧ w'.cell? ⟨g, 1, none⟩ = some (.int .i64 x1) ∧ w'.cell? ⟨g, 2, none⟩ = some (.int .i64 x2) ∧ w'.cell? ⟨k, 0, none⟩ = some (.int .i64 y0) ∧ w'.cell? ⟨k, 1, none⟩ = some (.int .i64 y1) ∧ w'.cell? ⟨k, 2, none⟩ = some (.int .i64 y2))
      clear hg3 hk3 e5 e6 f0 f1 f2 f3 f4 f7 f8 f9 l6 l7 hL j4 j5
      go_wp2_with fail
      go_meet
      exact HR.out
  case rest =>
    obtain ⟨g, k, rfl, rfl, hE, hg0, hg1, hg2, hk0, hk1, hk2⟩ := hcut
    have hfin : ∀ z, z = cmp3 (x0, x1, x2) (y0, y1, y2) → ∀ w9, Ext wc w9 → (Ending.returned (.int .i64 z) = .returned (.int .i64 (cmp3 (x0, x1, x2) (y0, y1, y2))) ∧ Ext w w9) := fun z hz w9 h9 => ⟨by rw [hz], hE.trans h9⟩
    have HF := hide hfin
    have i0 : ∀ w : World, (Instr.index 74 (.agg #[.int .i64 x0, .int .i64 x1, .int .i64 x2]) (.int .i64 0)).run Tryz.prog w = .ok (.int .i64 x0) w := fun _ => by kernel_rfl
    have i1 : ∀ w : World, (Instr.index 74 (.agg #[.int .i64 x0, .int .i64 x1, .int .i64 x2]) (.int .i64 1)).run Tryz.prog w = .ok (.int .i64 x1) w := fun _ => by kernel_rfl
    have i2 : ∀ w : World, (Instr.index 74 (.agg #[.int .i64 x0, .int .i64 x1, .int .i64 x2]) (.int .i64 2)).run Tryz.prog w = .ok (.int .i64 x2) w := fun _ => by kernel_rfl
    have hcmp : ∀ (p q : Int) (X : World), Calls Tryz.prog 35 #[.int .i64 p, .int .i64 q] X fun e w' => e = .returned (.int .i64 (cmpI p q)) ∧ w' = X := Any.cmp_Compare_int Tryz.lCmpI
    have HC := hide hcmp
    clear hfin hcmp hE
    go_wp2_with fail
    go_loopw [15] (fun i wr => wr = wc ∧ ((i = .int .i64 0) ∨ (i = .int .i64 1 ∧ x0 = y0) ∨ (i = .int .i64 2 ∧ x0 = y0 ∧ x1 = y1) ∨ (i = .int .i64 3 ∧ x0 = y0 ∧ x1 = y1 ∧ x2 = y2))) (fun i _ => 3 - (intOf i).toNat)
    case atStart => exact ⟨rfl, .inl rfl⟩
    case round =>
      obtain ⟨rfl, h⟩ := hrel
      rcases h with rfl | ⟨rfl, e0⟩ | ⟨rfl, e0, e1⟩ | ⟨rfl, e0, e1, e2⟩
      · rcases Int.lt_trichotomy x0 y0 with hc | hEQ | hc
        · have hv : cmpI y0 x0 = 1 := by unfold cmpI; rw [if_neg (by omega), if_pos hc]
          have HK := hide (hc :  x0 < y0)
          clear hc
          go_wp2_with (go_at_call 35; refine (HC.out _ _ _).mono ?_; rintro e w7 ⟨rfl, rfl⟩; rw [hv])
          go_ret
          refine HF.out _ ?_ _ (Below.refl _ _)
          have hc := HK.out
          unfold cmp3
          simp
          omega
        · have hv : cmpI y0 x0 = 0 := by unfold cmpI; rw [if_neg (by omega), if_neg (by omega)]
          have HK := hide (hEQ :  x0 = y0)
          clear hEQ
          go_wp2_with (go_at_call 35; refine (HC.out _ _ _).mono ?_; rintro e w7 ⟨rfl, rfl⟩; rw [hv])
          go_roundw
          case rel =>
            have hEQ := HK.out
            exact ⟨trivial, .inr (.inl ⟨rfl, hEQ⟩)⟩
          case measure => simp [intOf]
        · have hv : cmpI y0 x0 = -1 := by unfold cmpI; rw [if_pos (by omega)]
          have HK := hide (hc :  y0 < x0)
          clear hc
          go_wp2_with (go_at_call 35; refine (HC.out _ _ _).mono ?_; rintro e w7 ⟨rfl, rfl⟩; rw [hv])
          go_ret
          refine HF.out _ ?_ _ (Below.refl _ _)
          have hc := HK.out
          unfold cmp3
          simp
          omega
      · rcases Int.lt_trichotomy x1 y1 with hc | hEQ | hc
        · have hv : cmpI y1 x1 = 1 := by unfold cmpI; rw [if_neg (by omega), if_pos hc]
          have HK := hide (⟨e0, hc⟩ : x0 = y0 ∧  x1 < y1)
          clear e0 hc
          go_wp2_with (go_at_call 35; refine (HC.out _ _ _).mono ?_; rintro e w7 ⟨rfl, rfl⟩; rw [hv])
          go_ret
          refine HF.out _ ?_ _ (Below.refl _ _)
          obtain ⟨rfl, hc⟩ := HK.out
          unfold cmp3
          simp
          omega
        · have hv : cmpI y1 x1 = 0 := by unfold cmpI; rw [if_neg (by omega), if_neg (by omega)]
          have HK := hide (⟨e0, hEQ⟩ : x0 = y0 ∧  x1 = y1)
          clear e0 hEQ
          go_wp2_with (go_at_call 35; refine (HC.out _ _ _).mono ?_; rintro e w7 ⟨rfl, rfl⟩; rw [hv])
          go_roundw
          case rel =>
            obtain ⟨e0, hEQ⟩ := HK.out
            exact ⟨trivial, .inr (.inr (.inl ⟨rfl, e0, hEQ⟩))⟩
          case measure => simp [intOf]
        · have hv : cmpI y1 x1 = -1 := by unfold cmpI; rw [if_pos (by omega)]
          have HK := hide (⟨e0, hc⟩ : x0 = y0 ∧  y1 < x1)
          clear e0 hc
          go_wp2_with (go_at_call 35; refine (HC.out _ _ _).mono ?_; rintro e w7 ⟨rfl, rfl⟩; rw [hv])
          go_ret
          refine HF.out _ ?_ _ (Below.refl _ _)
          obtain ⟨rfl, hc⟩ := HK.out
          unfold cmp3
          simp
          omega
      · rcases Int.lt_trichotomy x2 y2 with hc | hEQ | hc
        · have hv : cmpI y2 x2 = 1 := by unfold cmpI; rw [if_neg (by omega), if_pos hc]
          have HK := hide (⟨e0, e1, hc⟩ : x0 = y0 ∧ x1 = y1 ∧  x2 < y2)
          clear e0 e1 hc
          go_wp2_with (go_at_call 35; refine (HC.out _ _ _).mono ?_; rintro e w7 ⟨rfl, rfl⟩; rw [hv])
          go_ret
          refine HF.out _ ?_ _ (Below.refl _ _)
          obtain ⟨rfl, rfl, hc⟩ := HK.out
          unfold cmp3
          simp
          omega
        · have hv : cmpI y2 x2 = 0 := by unfold cmpI; rw [if_neg (by omega), if_neg (by omega)]
          have HK := hide (⟨e0, e1, hEQ⟩ : x0 = y0 ∧ x1 = y1 ∧  x2 = y2)
          clear e0 e1 hEQ
          go_wp2_with (go_at_call 35; refine (HC.out _ _ _).mono ?_; rintro e w7 ⟨rfl, rfl⟩; rw [hv])
          go_roundw
          case rel =>
            obtain ⟨e0, e1, hEQ⟩ := HK.out
            exact ⟨trivial, .inr (.inr (.inr ⟨rfl, e0, e1, hEQ⟩))⟩
          case measure => simp [intOf]
        · have hv : cmpI y2 x2 = -1 := by unfold cmpI; rw [if_pos (by omega)]
          have HK := hide (⟨e0, e1, hc⟩ : x0 = y0 ∧ x1 = y1 ∧  y2 < x2)
          clear e0 e1 hc
          go_wp2_with (go_at_call 35; refine (HC.out _ _ _).mono ?_; rintro e w7 ⟨rfl, rfl⟩; rw [hv])
          go_ret
          refine HF.out _ ?_ _ (Below.refl _ _)
          obtain ⟨rfl, rfl, hc⟩ := HK.out
          unfold cmp3
          simp
          omega
      · have HE := hide (⟨e0, e1, e2⟩ : x0 = y0 ∧ x1 = y1 ∧ x2 = y2)
        clear e0 e1 e2
        go_wp2
        go_ret
        refine HF.out _ ?_ _ (Below.refl _ _)
        obtain ⟨rfl, rfl, rfl⟩ := HE.out
        simp [cmp3]
end Go.Proofs.YtlaaapfpchnmeaaGreatDoor
