/- Merged texts (GnA, GnB). -/
import Derived.Test.YtmpciohmljpncaaGreatDoorZb
import Derived.Test.YtmpciohmljpncaaGreatDoorZs
import Derived.Test.YtmpciohmljpncaaGreatDoorZrl
namespace Go.Proofs.YtmpciohmljpncaaGreatDoor
open Go.ChangeShapes Go.WideShapes Go.ChangeAt Go.RowKit Go.Lib Go.Shelf
def nameP (d : Nat) : List UInt8 := if d = 0 then [97] else if d = 1 then [98] else if d = 2 then [99] else [97, 98]
def pathGo : Nat → Nat → List UInt8 → List UInt8
 | 0, _, s => s
 | i + 1, k, s => pathGo i (k / 4) (s ++ [47] ++ nameP (k / 4 % 4))
def arN (n m : Int) : Nat := (around n m).toNat
def pathN (k : Nat) : List UInt8 := if k % 4 = 0 then [47] else pathGo (k % 4) k []
theorem bl_app (a b : ByteArray) : bl (a ++ b) = bl a ++ bl b := by
 unfold bl
 rw [ByteArray.data_append]
 simp
theorem pathGo_ne (i k : Nat) (s : List UInt8) (h : s ≠ []) : pathGo i k s ≠ [] := by
 induction i generalizing k s with
 | zero => exact h
 | succ i ih => exact ih _ _ (by simp)
theorem toL_nil (s : ByteArray) (b : Bool) (h : (bl s).isEmpty = b) : (s.toList == []) = b ∧ s.toList.isEmpty = b := by
 rw [toL]
 refine ⟨?_, h⟩
 rw [← h]
 show (bl s == []) = (bl s).isEmpty
 cases bl s <;> rfl
set_option maxRecDepth 100000 in
set_option maxHeartbeats 4000000 in
theorem pathof_any (n : Int) (w : World) (hn : I64 n) :
  Calls Tryz.prog 65 #[.int .i64 n] w fun e w' => ∃ s, e = .returned (.string s) ∧ bl s = pathN (arN n 1000000) ∧ Ext w w' := by
 have har := around_any n 1000000 w hn (by omega)
 have hbd := around_bd n 1000000 (by omega)
 obtain ⟨k, hk⟩ : ∃ k : Nat, around n 1000000 = k := Int.eq_ofNat_of_zero_le hbd.1
 have hka : arN n 1000000 = k := by unfold arN; rw [hk]; rfl
 rw [hk] at har hbd
 rw [hka]
 have hkl : k < 1000000 := by omega
 have HAR := hide har
 have hr0 : (k : Int).tmod 4 = ((k % 4 : Nat) : Int) := by rw [Int.tmod_eq_emod_of_nonneg (by omega)]; omega
 clear har hbd hk hka
 go_enter Tryz.func65, Tryz.ntmps65
 go_wp2_with fail
 refine HAR.out.mono ?_
 rintro e w1 ⟨rfl, rfl⟩
 go_wp2_with fail
 go_loopw [3, 4, 5] (fun v3 v4 v5 wr => ∃ (kk i : Nat) (s : ByteArray), v3 = .int .i64 kk ∧ v4 = .string s ∧ v5 = .int .i64 i ∧ kk < 1000000 ∧ i ≤ 3 ∧ Ext w wr ∧ Hid (pathGo i kk (bl s) = pathGo (k % 4) k []) ∧ Hid (s.size ≤ 100 - 10 * i)) (fun _ _ i _ => (intOf i).toNat)
 case atStart => exact ⟨k, k % 4, _, rfl, rfl, rfl, hkl, by omega, Below.refl _ _, rfl, by show (0 : Nat) ≤ _; omega⟩
 case round =>
  obtain ⟨kk, i, s, rfl, rfl, rfl, hkk, hi, hext, HG, HZ⟩ := hrel
  clear hr0
  cases i with
  | zero =>
   have hlt : ¬ (0 : Int) > 0 := by omega
   by_cases hk0 : k % 4 = 0
   ·have hs : bl s = [] := by
     have := HG.out
     rw [hk0] at this
     exact this
    obtain ⟨f1, f2⟩ := toL_nil s true (by rw [hs]; rfl)
    have HP := hide (show pathN k = [47] by unfold pathN; rw [if_pos hk0])
    clear hs hk0
    go_wp2
    go_ret
    exact ⟨_, rfl, by rw [HP.out]; rfl, hext⟩
   ·have hs : bl s = pathN k := by unfold pathN; rw [if_neg hk0]; exact HG.out
    have hne : (bl s).isEmpty = false := by
     have h1 : bl s = pathGo (k % 4) k [] := HG.out
     obtain ⟨j, hj⟩ : ∃ j, k % 4 = j + 1 := ⟨k % 4 - 1, by omega⟩
     rw [hj] at h1
     have := pathGo_ne j (k / 4) ([] ++ [47] ++ nameP (k / 4 % 4)) (by simp)
     rw [h1]
     unfold pathGo
     cases hq : pathGo j (k / 4) ([] ++ [47] ++ nameP (k / 4 % 4)) with
     | nil => exact absurd hq this
     | cons => rfl
    obtain ⟨f1, f2⟩ := toL_nil s false hne
    have HP := hide hs
    clear hs hk0 hne
    go_wp2
    go_ret
    exact ⟨_, rfl, HP.out, hext⟩
  | succ i =>
   have hq : ((kk : Nat) : Int).tdiv 4 = ((kk / 4 : Nat) : Int) := by rw [Int.tdiv_eq_ediv_of_nonneg (by omega)]; omega
   have hkq : kk / 4 < 1000000 := by omega
   have hstep : ∀ (nm : ByteArray), bl nm = nameP (kk / 4 % 4) → pathGo i (kk / 4) (bl (s ++ ⟨#[47]⟩ ++ nm)) = pathGo (k % 4) k [] := fun nm h => by
    rw [bl_app, bl_app, h]
    exact HG.out
   have hsz : ∀ (nm : ByteArray), nm.size ≤ 2 → (s ++ ⟨#[47]⟩ ++ nm).size ≤ 100 - 10 * i := fun nm h => by
    have := HZ.out
    rw [ByteArray.size_append, ByteArray.size_append]
    have e : (⟨#[47]⟩ : ByteArray).size = 1 := rfl
    omega
   have HSTEP := hide hstep
   have HSZ := hide hsz
   clear hstep hsz
   obtain ⟨q, hqq⟩ : ∃ q, kk / 4 = q := ⟨_, rfl⟩
   rw [hqq] at hq hkq HSTEP
   clear HG hqq
   obtain ⟨d, hd⟩ : ∃ d, q % 4 = d := ⟨_, rfl⟩
   have hr : (q : Int).tmod 4 = (d : Int) := by rw [Int.tmod_eq_emod_of_nonneg (by omega)]; omega
   have hd4 : d < 4 := by omega
   rw [hd] at HSTEP
   clear hd
   have hszs : s.size ≤ 1000 := by have := HZ.out; omega
   rcases (by omega : d = 0 ∨ d = 1 ∨ d = 2 ∨ d = 3) with rfl | rfl | rfl | rfl
   all_goals
    go_wp2
    go_roundw
    case rel => exact ⟨q, i, _, rfl, rfl, by go_num, hkq, by omega, hext.trans ((Below.refl _ _).alloc (Nat.le_refl _) _), HSTEP.out _ rfl, HSZ.out _ (by decide)⟩
    case measure => simp [intOf]
end Go.Proofs.YtmpciohmljpncaaGreatDoor
namespace Go.Proofs.YtmpciohmljpncaaGreatDoor
open Go.ChangeShapes Go.WideShapes Go.ChangeAt Go.RowKit Go.Lib Go.Shelf
def nmM (d : Nat) : ByteArray := if d = 0 then ⟨#[97]⟩ else if d = 1 then ⟨#[98]⟩ else ⟨#[122]⟩
def vlM (d : Nat) : ByteArray := if d = 0 then ⟨#[]⟩ else if d = 1 then ⟨#[49]⟩ else ⟨#[50]⟩
theorem nm_cell {w : World} {g : Nat} {T : TypeId} (h : w.heap[g]? = some (.cells #[.string ⟨#[97]⟩, .string ⟨#[98]⟩, .string ⟨#[122]⟩] T (0, 0))) (d : Nat) (hd : d < 3) : w.cell? ⟨g, d, none⟩ = some (.string (nmM d)) := by
 simp only [World.cell?, h]
 rcases (by omega : d = 0 ∨ d = 1 ∨ d = 2) with rfl | rfl | rfl <;> rfl
theorem vl_cell {w : World} {g : Nat} {T : TypeId} (h : w.heap[g]? = some (.cells #[.string ⟨#[]⟩, .string ⟨#[49]⟩, .string ⟨#[50]⟩] T (0, 0))) (d : Nat) (hd : d < 3) : w.cell? ⟨g, d, none⟩ = some (.string (vlM d)) := by
 simp only [World.cell?, h]
 rcases (by omega : d = 0 ∨ d = 1 ∨ d = 2) with rfl | rfl | rfl <;> rfl
/-- the phases of a head that is laid in a box of its own -/
def PhH (W : World) (d1 d2 : Nat) : List Value → World → Prop
 | [], w' => Ext W w'
 | [v], w' => ∃ g, v = .pointer (some ⟨g, 0, none⟩) ∧ W.heap.size ≤ g ∧ w'.heap[g]? = some (.cells #[.string ⟨#[]⟩, .string ⟨#[]⟩] 169 (0, 0)) ∧ Ext W w'
 | [v, _], w' => ∃ g, v = .pointer (some ⟨g, 0, none⟩) ∧ W.heap.size ≤ g ∧ w'.heap[g]? = some (.cells #[.string (nmM d1), .string (vlM d2)] 169 (0, 0)) ∧ Ext W w'
 | _, _ => False
theorem PhH.ext {W : World} {d1 d2 : Nat} {vs : List Value} {w' w'' : World} (h : PhH W d1 d2 vs w') (e : Ext w' w'') : PhH W d1 d2 vs w'' := by
 rcases vs with _ | ⟨v, _ | ⟨u, _ | ⟨z, vs⟩⟩⟩
 ·exact Ext.trans h e
 ·obtain ⟨g, h1, h2, h3, h4⟩ := h
  exact ⟨g, h1, h2, (e.block g (Array.getElem?_eq_some_iff.1 h3).1).trans h3, h4.trans e⟩
 ·obtain ⟨g, h1, h2, h3, h4⟩ := h
  exact ⟨g, h1, h2, (e.block g (Array.getElem?_eq_some_iff.1 h3).1).trans h3, h4.trans e⟩
 ·exact h.elim
theorem frame74 (x : Nat → Value) : frameOf 74 x = #[x 0, x 1, x 2, x 3, x 4, x 5, x 6, x 7, x 8, x 9, x 10, x 11, x 12, x 13, x 14, x 15, x 16, x 17, x 18, x 19, x 20, x 21, x 22, x 23, x 24, x 25, x 26, x 27, x 28, x 29, x 30, x 31, x 32, x 33, x 34, x 35, x 36, x 37, x 38, x 39, x 40, x 41, x 42, x 43, x 44, x 45, x 46, x 47, x 48, x 49, x 50, x 51, x 52, x 53, x 54, x 55, x 56, x 57, x 58, x 59, x 60, x 61, x 62, x 63, x 64, x 65, x 66, x 67, x 68, x 69, x 70, x 71, x 72, x 73] := rfl
def hdM (i k : Nat) : HeadD := (nmM (i * k / 3 % 3), vlM (k / 9 % 3))
def stepM (H : List HeadD) (i k : Nat) : List HeadD := if k % 3 = 0 then (if (getH H (bl (hdM i k).1)).isSome = true then H else H ++ [hdM i k]) else H
def matchH (k1 k2 : Int) : List HeadD := stepM (stepM [] 1 (arN k1 1000)) 2 (arN k2 1000)
theorem Tryz.matchDesc0 : (Tryz.prog.underlying 48).map TypeDesc.isRow = some true := by kernel_rfl
theorem Tryz.matchDesc : ∃ d, Tryz.prog.underlying 48 = some d ∧ d.isRow = true := by
 have h := Tryz.matchDesc0
 revert h
 cases Tryz.prog.underlying 48 with
 | none => intro h; cases h
 | some d => intro h; exact ⟨d, rfl, by simpa using h⟩
theorem Tryz.matchSize : (Tryz.prog.info? 48).map (·.size) = some 3 := by kernel_rfl
/-- a match's box, its heads the call's own -/
def MBox (w0 wr : World) (b : Nat) (s : ByteArray) (ex : Bool) (H : List HeadD) : Prop :=
 w0.heap.size ≤ b ∧ Ext w0 wr ∧ ∃ hv, wr.heap[b]? = some (.cells #[.string s, .bool ex, hv] 48 (0, 0)) ∧ wr.ownsRow w0.heap.size 169 2 hv H.length (H.flatMap encH)
set_option maxRecDepth 100000 in
set_option maxHeartbeats 16000000 in
theorem match3_any (k0 k1 k2 : Nat) (v : Value) (w : World) (hs : Ints w v [(k0 : Int), (k1 : Int), (k2 : Int)]) (h0 : k0 < 1000000) (h1 : k1 < 1000000) (h2 : k2 < 1000000) :
  Calls Tryz.prog 64 #[v] w fun e w' => ∃ s hv, e = .returned (.agg #[.string s, .bool (k0 % 3 == 1), hv]) ∧ bl s = pathN (k0 / 3) ∧ w'.ownsRow w.heap.size 169 2 hv (matchH k1 k2).length ((matchH k1 k2).flatMap encH) ∧ Ext w w' := by
 obtain ⟨hl, a, c, rfl⟩ := hs.shape
 obtain ⟨b, off, rfl, hbb, hc0⟩ := ints_at hs 0 (by simp)
 obtain ⟨b', off', e1, _, hc1⟩ := ints_at hs 1 (by simp)
 cases e1
 obtain ⟨b', off', e1, _, hc2⟩ := ints_at hs 2 (by simp)
 cases e1
 simp only [List.getElem_cons_zero, List.getElem_cons_succ, Nat.add_zero, List.length_cons, List.length_nil] at hc0 hc1 hc2 hl ⊢
 have har := fun X : World => around_any k0 1000000 X (by unfold I64; omega) (by omega)
 have hk0 : around k0 1000000 = k0 := by unfold around; rw [if_neg (by omega)]; omega
 simp only [hk0] at har
 have hpo : ∀ X, Calls Tryz.prog 65 #[.int .i64 ((k0 / 3 : Nat) : Int)] X fun e w' => ∃ s, e = .returned (.string s) ∧ bl s = pathN (k0 / 3) ∧ Ext X w' := fun X => by
  have := pathof_any ((k0 / 3 : Nat) : Int) X (by unfold I64; omega)
  have e : arN ((k0 / 3 : Nat) : Int) 1000000 = k0 / 3 := by unfold arN around; rw [if_neg (by omega)]; omega
  rw [e] at this
  exact this
 have hq : (k0 : Int).tdiv 3 = ((k0 / 3 : Nat) : Int) := by rw [Int.tdiv_eq_ediv_of_nonneg (by omega)]; omega
 have hr : (k0 : Int).tmod 3 = ((k0 % 3 : Nat) : Int) := by rw [Int.tmod_eq_emod_of_nonneg (by omega)]; omega
 have HAR := hide har
 have HPO := hide hpo
 have HS := hide hs
 have C1 := hide hc1
 have C2 := hide hc2
 have hkz : (k0 : Int) < 1000000 := by omega
 clear har hpo hs hk0 hc1 hc2
 obtain ⟨qq, hqq⟩ : ∃ q : Int, ((k0 / 3 : Nat) : Int) = q := ⟨_, rfl⟩
 have hqb : 0 ≤ qq ∧ qq < 1000000 := by omega
 obtain ⟨rr, hrr⟩ : ∃ q : Int, ((k0 % 3 : Nat) : Int) = q := ⟨_, rfl⟩
 have hrb : 0 ≤ rr ∧ rr < 3 := by omega
 obtain ⟨ex, hex⟩ : ∃ x, (rr == 1) = x := ⟨_, rfl⟩
 have hexx : (k0 % 3 == 1) = ex := by
  rw [← hex]
  rw [Bool.eq_iff_iff]
  simp
  omega
 rw [hexx]
 rw [hqq] at hq HPO
 rw [hrr] at hr
 clear hqq hrr hexx
 go_enter Tryz.func64, Tryz.ntmps64
 go_wp2_with fail
 refine (HAR.out _).mono ?_
 rintro e w1 ⟨rfl, rfl⟩
 go_wp2_with fail
 refine (HPO.out _).mono ?_
 rintro e w2 ⟨s, rfl, hs5, E2⟩
 go_wp2_with fail
 have hb4 := heap_alloc_new w2 (.cells #[.string s, .bool ex, .slice none 0 0] 48)
 have hw0 : Ext w (w.alloc (.cells #[.string ⟨#[]⟩, .bool false, .slice none 0 0] 48)) := (Below.refl _ w).alloc (Nat.le_refl _) _
 have hx3 : Ext w2 (w2.alloc (.cells #[.string s, .bool ex, .slice none 0 0] 48)) := (Below.refl _ w2).alloc (Nat.le_refl _) _
 have hb2 : (w2.alloc (.cells #[.string s, .bool ex, .slice none 0 0] 48)).heap[w.heap.size]? = some (.cells #[.string ⟨#[]⟩, .bool false, .slice none 0 0] 48 (0, 0)) := by
  have h1 := heap_alloc_new w (.cells #[.string ⟨#[]⟩, .bool false, .slice none 0 0] 48)
  have hl := (Array.getElem?_eq_some_iff.1 h1).1
  exact (hx3.block _ (Nat.lt_of_lt_of_le hl E2.size)).trans ((E2.block _ hl).trans h1)
 have hne : w2.heap.size ≠ w.heap.size := by
  have h1 := E2.size
  simp at h1
  omega
 have hm0 : MBox w (w2.alloc (.cells #[.string s, .bool ex, .slice none 0 0] 48)) w2.heap.size s ex [] := ⟨(hw0.trans E2).size, (hw0.trans E2).trans hx3, _, hb4, World.ownsRow_nil _ _ _ _⟩
 have HS5 := hide hs5
 generalize (w2.alloc (.cells #[.string s, .bool ex, .slice none 0 0] 48)) = W3 at *
 generalize w2.heap.size = b4 at *
 clear hb4 hx3 E2 hs5
 have har1 : ∀ (i : Nat), i = 1 ∨ i = 2 → ∃ K : Nat, K < 1000000 ∧ arN (if i = 1 then (k1 : Int) else k2) 1000 = K % 1000 ∧ w.cell? ⟨b, off + i, none⟩ = some (.int .i64 K) ∧ ∀ X, Calls Tryz.prog 5 #[.int .i64 K, .int .i64 1000] X fun e w' => e = .returned (.int .i64 ((K % 1000 : Nat) : Int)) ∧ X = w' := fun i hi => by
  have hg : ∀ K : Nat, K < 1000000 → arN (K : Int) 1000 = K % 1000 ∧ ∀ X, Calls Tryz.prog 5 #[.int .i64 K, .int .i64 1000] X fun e w' => e = .returned (.int .i64 ((K % 1000 : Nat) : Int)) ∧ X = w' := fun K hK => by
   have e : around (K : Int) 1000 = ((K % 1000 : Nat) : Int) := by unfold around; rw [if_neg (by omega)]; omega
   refine ⟨by unfold arN; rw [e]; omega, fun X => ?_⟩
   have := around_any K 1000 X (by unfold I64; omega) (by omega)
   rw [e] at this
   exact this
  rcases hi with rfl | rfl
  ·exact ⟨k1, h1, (hg k1 h1).1, C1.out, (hg k1 h1).2⟩
  ·exact ⟨k2, h2, (hg k2 h2).1, C2.out, (hg k2 h2).2⟩
 have HA1 := hide har1
 have HM0 := hide hm0
 have HB2 := hide hb2
 have HNE := hide hne
 clear har1 hm0 hb2 hne hw0 hr hq hex hl hkz hc0 hqb hrb
 go_loopw [5] (fun v5 wr => ∃ (i : Nat) (H : List HeadD), v5 = .int .i64 i ∧ 1 ≤ i ∧ i ≤ 3 ∧ MBox w wr b4 s ex H ∧ wr.heap[w.heap.size]? = some (.cells #[.string ⟨#[]⟩, .bool false, .slice none 0 0] 48 (0, 0)) ∧ Hid (H = if i = 1 then [] else if i = 2 then stepM [] 1 (arN k1 1000) else matchH k1 k2)) (fun i _ => 3 - (intOf i).toNat)
 case atStart => exact ⟨1, [], rfl, by omega, by omega, HM0.out, HB2.out, rfl⟩
 case round =>
  obtain ⟨i, H, rfl, hi1, hi3, hmb, hb2, HH⟩ := hrel
  have HMB := hide hmb
  have HB := hide hb2
  clear hmb hb2 HM0 HB2
  by_cases hlt : i < 3
  ·have hltz : (i : Int) < 3 := by omega
   obtain ⟨K, hK6, hKa, hKc, hKcall⟩ := HA1.out i (by omega)
   have hnext : (if i + 1 = 1 then [] else if i + 1 = 2 then stepM [] 1 (arN k1 1000) else matchH k1 k2) = stepM H i (K % 1000) := by
    rcases (by omega : i = 1 ∨ i = 2) with rfl | rfl
    ·have e : H = [] := HH.out
     rw [e, ← hKa]
     rfl
    ·have e : H = stepM [] 1 (arN k1 1000) := HH.out
     rw [e, ← hKa]
     rfl
   have hcell := (HMB.out.2.1.cell (p := ⟨b, off + i, none⟩) hbb).trans hKc
   obtain ⟨k, hk⟩ : ∃ k, K % 1000 = k := ⟨_, rfl⟩
   have hk1000 : k < 1000 := by omega
   rw [hk] at hKcall hnext
   have HN := hide hnext
   have HH2 := hide HH.out
   have HKC := hide hKcall
   have hiz : (0 : Int) ≤ i := by omega
   have hr1 : (k : Int).tmod 3 = ((k % 3 : Nat) : Int) := by rw [Int.tmod_eq_emod_of_nonneg (by omega)]; omega
   clear hKcall hnext hKa hKc HH hk hK6
   by_cases hk3 : k % 3 = 0
   rotate_left
   ·have hne : ¬ ((k % 3 : Nat) : Int) = 0 := by omega
    have HN2 := hide (HN.out.trans (show stepM H i k = H by unfold stepM; rw [if_neg hk3]))
    obtain ⟨r3, hr3⟩ : ∃ r : Int, ((k % 3 : Nat) : Int) = r := ⟨_, rfl⟩
    rw [hr3] at hr1 hne
    clear hr3 hk3
    clear HN
    go_wp2_with fail
    refine (HKC.out _).mono ?_
    rintro e w5 ⟨rfl, rfl⟩
    go_wp2
    go_roundw
    case rel => exact ⟨i + 1, H, by go_num, by omega, by omega, HMB.out, HB.out, HN2.out.symm⟩
    case measure => simp [intOf] <;> omega
   have hst : stepM H i k = if (getH H (bl (hdM i k).1)).isSome = true then H else H ++ [hdM i k] := by unfold stepM; rw [if_pos hk3]
   have HN2 := hide (HN.out.trans hst)
   rw [hk3] at hr1
   clear HN hst hk3
   have hik : (i : Int) * k ≤ 3000 := by
    have h1 : (i : Int) * k ≤ 3 * 1000 := Int.mul_le_mul (by omega) (by omega) (by omega) (by omega)
    omega
   have hik0 : 0 ≤ (i : Int) * k := Int.mul_nonneg (by omega) (by omega)
   obtain ⟨q1, hq1⟩ : ∃ q, i * k / 3 = q := ⟨_, rfl⟩
   obtain ⟨d1, hd1⟩ : ∃ q, q1 % 3 = q := ⟨_, rfl⟩
   obtain ⟨q2, hq2⟩ : ∃ q, k / 9 = q := ⟨_, rfl⟩
   obtain ⟨d2, hd2⟩ : ∃ q, q2 % 3 = q := ⟨_, rfl⟩
   have hhd : hdM i k = (nmM d1, vlM d2) := by unfold hdM; rw [hq1, hq2, hd1, hd2]
   rw [hhd] at HN2
   have z1 : ((i : Int) * k).tdiv 3 = q1 := by rw [Int.tdiv_eq_ediv_of_nonneg hik0, ← hq1]; simp
   have z2 : (q1 : Int).tmod 3 = d1 := by rw [Int.tmod_eq_emod_of_nonneg (by omega)]; omega
   have z3 : (k : Int).tdiv 9 = q2 := by rw [Int.tdiv_eq_ediv_of_nonneg (by omega)]; omega
   have z4 : (q2 : Int).tmod 3 = d2 := by rw [Int.tmod_eq_emod_of_nonneg (by omega)]; omega
   have hl1 : d1 < 3 := by omega
   have hl2 : d2 < 3 := by omega
   have hq1z : (q1 : Int) ≤ 1000 := by omega
   have hq2z : (q2 : Int) ≤ 1000 := by omega
   have wz1 : IntKind.i64.wrap ((i : Int) * k) = (i : Int) * k := IntWalk.i64_in _ (by omega)
   have wz2 : IntKind.i64.wrap (q1 : Int) = (q1 : Int) := IntWalk.i64_in _ (by omega)
   have wz3 : IntKind.i64.wrap (q2 : Int) = (q2 : Int) := IntWalk.i64_in _ (by omega)
   clear hq1 hd1 hq2 hd2 hhd
   go_wp2_with fail
   refine (HKC.out _).mono ?_
   rintro e w5 ⟨rfl, rfl⟩
   go_upto_region 10 with (fail)
   refine wp_region_rx 74 [15, 16] (PhH wr d1 d2) (fun (t : Nat) (wI : World) (v : Value) => match t with | 0 => v = .slice (some ⟨b, off, none⟩) 3 c | 1 => v = undef | 2 => v = .pointer (some ⟨w.heap.size, 0, none⟩) | 3 => v = .int .i64 k0 | 4 => v = .pointer (some ⟨b4, 0, none⟩) | 5 => v = .int .i64 i | 6 => v = .int .i64 k | 10 => v = .slice (some ⟨b, off, none⟩) 3 c | 11 => v = .int .i64 3 | 12 => v = .bool true | 13 => v = .slice (some ⟨b, off, none⟩) 3 c | 14 => v = .pointer (some ⟨b, off, none⟩) | 15 => v = .int .i64 k0 | 16 => v = .int .i64 k0 | 17 => v = .int .i64 k0 | 18 => v = .int .i64 qq | 19 => v = .string s | 20 => v = .int .i64 k0 | 21 => v = .int .i64 rr | 22 => v = .bool ex | 23 => v = .agg #[.string s, .bool ex, .slice none 0 0] | 42 => ∃ g, v = .slice (some ⟨g, 0, none⟩) 3 3 ∧ wI.heap[g]? = some (Obj.cells #[.string ⟨#[97]⟩, .string ⟨#[98]⟩, .string ⟨#[122]⟩] 9 (0, 0)) | 43 => v = .int .i64 i | 44 => v = .int .i64 k | 45 => v = .int .i64 (i * k) | 46 => v = .int .i64 q1 | 47 => v = .int .i64 d1 | 48 => ∃ g, v = .pointer (some ⟨g, d1, none⟩) ∧ wI.heap[g]? = some (Obj.cells #[.string ⟨#[97]⟩, .string ⟨#[98]⟩, .string ⟨#[122]⟩] 9 (0, 0)) | 49 => v = .string (nmM d1) | 50 => ∃ g, v = .slice (some ⟨g, 0, none⟩) 3 3 ∧ wI.heap[g]? = some (Obj.cells #[.string ⟨#[]⟩, .string ⟨#[49]⟩, .string ⟨#[50]⟩] 9 (0, 0)) | 51 => v = .int .i64 k | 52 => v = .int .i64 q2 | 53 => v = .int .i64 d2 | 54 => ∃ g, v = .pointer (some ⟨g, d2, none⟩) ∧ wI.heap[g]? = some (Obj.cells #[.string ⟨#[]⟩, .string ⟨#[49]⟩, .string ⟨#[50]⟩] 9 (0, 0)) | 55 => v = .string (vlM d2) | 56 => v = .agg #[.string (nmM d1), .string (vlM d2)] | 73 => v = undef | _ => True) (fun (w' w'' : World) => ∀ (g : Nat) (cs : Array Value) (fr : Nat × Nat), w'.heap[g]? = some (Obj.cells cs 9 fr) → w''.heap[g]? = some (Obj.cells cs 9 fr)) (by kernel_rfl) rfl (by kernel_rfl) (by kernel_rfl) (by kernel_rfl) ?_ ?_ ?_ ?_ ?_ ?_ ?_ ?_
   ·intro w' w'' h g cs fr hg
    exact (h.block g (Array.getElem?_eq_some_iff.1 hg).1).trans hg
   ·intro t w' w'' v hR hv
    split at hv <;> first | exact hv | (obtain ⟨g, hv1, hg⟩ := hv; exact ⟨g, hv1, hR g _ _ hg⟩)
   ·intro vs w' w'' h hE
    exact h.ext hE
   ·exact (Below.refl _ _).drew
   ·intro t ht hno
    have hi : t = 0 ∨ t = 1 ∨ t = 2 ∨ t = 3 ∨ t = 4 ∨ t = 5 ∨ t = 6 ∨ t = 7 ∨ t = 8 ∨ t = 9 ∨ t = 10 ∨ t = 11 ∨ t = 12 ∨ t = 13 ∨ t = 14 ∨ t = 15 ∨ t = 16 ∨ t = 17 ∨ t = 18 ∨ t = 19 ∨ t = 20 ∨ t = 21 ∨ t = 22 ∨ t = 23 ∨ t = 24 ∨ t = 25 ∨ t = 26 ∨ t = 27 ∨ t = 28 ∨ t = 29 ∨ t = 30 ∨ t = 31 ∨ t = 32 ∨ t = 33 ∨ t = 34 ∨ t = 35 ∨ t = 36 ∨ t = 37 ∨ t = 38 ∨ t = 39 ∨ t = 40 ∨ t = 41 ∨ t = 42 ∨ t = 43 ∨ t = 44 ∨ t = 45 ∨ t = 46 ∨ t = 47 ∨ t = 48 ∨ t = 49 ∨ t = 50 ∨ t = 51 ∨ t = 52 ∨ t = 53 ∨ t = 54 ∨ t = 55 ∨ t = 56 ∨ t = 57 ∨ t = 58 ∨ t = 59 ∨ t = 60 ∨ t = 61 ∨ t = 62 ∨ t = 63 ∨ t = 64 ∨ t = 65 ∨ t = 66 ∨ t = 67 ∨ t = 68 ∨ t = 69 ∨ t = 70 ∨ t = 71 ∨ t = 72 ∨ t = 73 := by omega
    rcases hi with rfl | rfl | rfl | rfl | rfl | rfl | rfl | rfl | rfl | rfl | rfl | rfl | rfl | rfl | rfl | rfl | rfl | rfl | rfl | rfl | rfl | rfl | rfl | rfl | rfl | rfl | rfl | rfl | rfl | rfl | rfl | rfl | rfl | rfl | rfl | rfl | rfl | rfl | rfl | rfl | rfl | rfl | rfl | rfl | rfl | rfl | rfl | rfl | rfl | rfl | rfl | rfl | rfl | rfl | rfl | rfl | rfl | rfl | rfl | rfl | rfl | rfl | rfl | rfl | rfl | rfl | rfl | rfl | rfl | rfl | rfl | rfl | rfl | rfl
    all_goals first | exact rfl | exact True.intro | exact absurd (hno.symm.trans (by kernel_rfl) : true = false) (by decide)
   ·intro i o ho hmi vs X w' hpk hph hX hI K hK
    have hin : i < 17 := (Array.getElem?_eq_some_iff.1 ho).1
    have hi : i = 0 ∨ i = 1 ∨ i = 2 ∨ i = 3 ∨ i = 4 ∨ i = 5 ∨ i = 6 ∨ i = 7 ∨ i = 8 ∨ i = 9 ∨ i = 10 ∨ i = 11 ∨ i = 12 ∨ i = 13 ∨ i = 14 ∨ i = 15 ∨ i = 16 := by omega
    rcases hi with rfl | rfl | rfl | rfl | rfl | rfl | rfl | rfl | rfl | rfl | rfl | rfl | rfl | rfl | rfl | rfl | rfl
    ·obtain rfl := Option.some.inj ho
     unfold wpOp
     simp only [ho]
     rw [if_pos (by rfl)]
     left
     rw [frame74]
     go_simp
     refine metK (hK.out (.slice (some ⟨w'.heap.size, 0, none⟩) 3 3) _ ((Below.refl _ w').alloc (Nat.le_refl _) _) (fun d hd => by cases hd; exact ⟨_, rfl, heap_alloc_new w' _⟩)) ?_
     simp [frame74, Act.put, *]
    ·obtain rfl := Option.some.inj ho
     have e5 : X 5 = _ := hI 5 (by kernel_rfl)
     unfold wpOp
     simp only [ho]
     rw [if_pos (by rfl)]
     left
     rw [frame74]
     go_simp
     refine metK (hK.out (.int .i64 i) _ (Below.refl _ _) (fun d hd => by cases hd; exact rfl)) ?_
     simp [frame74, Act.put, *]
    ·obtain rfl := Option.some.inj ho
     have e6 : X 6 = _ := hI 6 (by kernel_rfl)
     unfold wpOp
     simp only [ho]
     rw [if_pos (by rfl)]
     left
     rw [frame74]
     go_simp
     refine metK (hK.out (.int .i64 k) _ (Below.refl _ _) (fun d hd => by cases hd; exact rfl)) ?_
     simp [frame74, Act.put, *]
    ·obtain rfl := Option.some.inj ho
     have e43 : X 43 = _ := hI 43 (by kernel_rfl)
     have e44 : X 44 = _ := hI 44 (by kernel_rfl)
     unfold wpOp
     simp only [ho]
     rw [if_pos (by rfl)]
     left
     rw [frame74]
     go_simp
     refine metK (hK.out (.int .i64 (i * k)) _ (Below.refl _ _) (fun d hd => by cases hd; exact rfl)) ?_
     simp [frame74, Act.put, *]
    ·obtain rfl := Option.some.inj ho
     have e45 : X 45 = _ := hI 45 (by kernel_rfl)
     unfold wpOp
     simp only [ho]
     rw [if_pos (by rfl)]
     left
     rw [frame74]
     go_simp
     refine metK (hK.out (.int .i64 q1) _ (Below.refl _ _) (fun d hd => by cases hd; exact rfl)) ?_
     simp [frame74, Act.put, *]
    ·obtain rfl := Option.some.inj ho
     have e46 : X 46 = _ := hI 46 (by kernel_rfl)
     unfold wpOp
     simp only [ho]
     rw [if_pos (by rfl)]
     left
     rw [frame74]
     go_simp
     refine metK (hK.out (.int .i64 d1) _ (Below.refl _ _) (fun d hd => by cases hd; exact rfl)) ?_
     simp [frame74, Act.put, *]
    ·obtain rfl := Option.some.inj ho
     have y42 := hI 42 (by kernel_rfl)
     have e47 : X 47 = _ := hI 47 (by kernel_rfl)
     obtain ⟨g, e42, hg⟩ := y42
     have hd1z : (d1 : Int) < 3 := by omega
     unfold wpOp
     simp only [ho]
     rw [if_pos (by rfl)]
     left
     rw [frame74]
     go_simp
     refine metK (hK.out (.pointer (some ⟨g, d1, none⟩)) _ (Below.refl _ _) (fun d hd => by cases hd; exact ⟨g, rfl, hg⟩)) ?_
     simp [frame74, Act.put, *]
    ·obtain rfl := Option.some.inj ho
     have y48 := hI 48 (by kernel_rfl)
     obtain ⟨g, e48, hg⟩ := y48
     have c0 : w'.cell? ⟨g, d1, none⟩ = some (.string (nmM d1)) := nm_cell hg d1 hl1
     unfold wpOp
     simp only [ho]
     rw [if_pos (by rfl)]
     left
     rw [frame74]
     go_simp
     refine metK (hK.out (.string (nmM d1)) _ (Below.refl _ _) (fun d hd => by cases hd; exact rfl)) ?_
     simp [frame74, Act.put, *]
    ·obtain rfl := Option.some.inj ho
     unfold wpOp
     simp only [ho]
     rw [if_pos (by rfl)]
     left
     rw [frame74]
     go_simp
     refine metK (hK.out (.slice (some ⟨w'.heap.size, 0, none⟩) 3 3) _ ((Below.refl _ w').alloc (Nat.le_refl _) _) (fun d hd => by cases hd; exact ⟨_, rfl, heap_alloc_new w' _⟩)) ?_
     simp [frame74, Act.put, *]
    ·obtain rfl := Option.some.inj ho
     have e6 : X 6 = _ := hI 6 (by kernel_rfl)
     unfold wpOp
     simp only [ho]
     rw [if_pos (by rfl)]
     left
     rw [frame74]
     go_simp
     refine metK (hK.out (.int .i64 k) _ (Below.refl _ _) (fun d hd => by cases hd; exact rfl)) ?_
     simp [frame74, Act.put, *]
    ·obtain rfl := Option.some.inj ho
     have e51 : X 51 = _ := hI 51 (by kernel_rfl)
     unfold wpOp
     simp only [ho]
     rw [if_pos (by rfl)]
     left
     rw [frame74]
     go_simp
     refine metK (hK.out (.int .i64 q2) _ (Below.refl _ _) (fun d hd => by cases hd; exact rfl)) ?_
     simp [frame74, Act.put, *]
    ·obtain rfl := Option.some.inj ho
     have e52 : X 52 = _ := hI 52 (by kernel_rfl)
     unfold wpOp
     simp only [ho]
     rw [if_pos (by rfl)]
     left
     rw [frame74]
     go_simp
     refine metK (hK.out (.int .i64 d2) _ (Below.refl _ _) (fun d hd => by cases hd; exact rfl)) ?_
     simp [frame74, Act.put, *]
    ·obtain rfl := Option.some.inj ho
     have y50 := hI 50 (by kernel_rfl)
     have e53 : X 53 = _ := hI 53 (by kernel_rfl)
     obtain ⟨g, e50, hg⟩ := y50
     have hd2z : (d2 : Int) < 3 := by omega
     unfold wpOp
     simp only [ho]
     rw [if_pos (by rfl)]
     left
     rw [frame74]
     go_simp
     refine metK (hK.out (.pointer (some ⟨g, d2, none⟩)) _ (Below.refl _ _) (fun d hd => by cases hd; exact ⟨g, rfl, hg⟩)) ?_
     simp [frame74, Act.put, *]
    ·obtain rfl := Option.some.inj ho
     have y54 := hI 54 (by kernel_rfl)
     obtain ⟨g, e54, hg⟩ := y54
     have c0 : w'.cell? ⟨g, d2, none⟩ = some (.string (vlM d2)) := vl_cell hg d2 hl2
     unfold wpOp
     simp only [ho]
     rw [if_pos (by rfl)]
     left
     rw [frame74]
     go_simp
     refine metK (hK.out (.string (vlM d2)) _ (Below.refl _ _) (fun d hd => by cases hd; exact rfl)) ?_
     simp [frame74, Act.put, *]
    ·obtain rfl := Option.some.inj ho
     have e49 : X 49 = _ := hI 49 (by kernel_rfl)
     have e55 : X 55 = _ := hI 55 (by kernel_rfl)
     unfold wpOp
     simp only [ho]
     rw [if_pos (by rfl)]
     left
     rw [frame74]
     go_simp
     refine metK (hK.out (.agg #[.string (nmM d1), .string (vlM d2)]) _ (Below.refl _ _) (fun d hd => by cases hd; exact rfl)) ?_
     simp [frame74, Act.put, *]
    ·exact absurd hmi (by decide)
    ·exact absurd hmi (by decide)
   ·intro i o ho hmi vs X w' hqi hql hph hX hI K hK
    rcases vs with _ | ⟨v0, _ | ⟨v1, _⟩⟩
    ·obtain rfl : 15 = i := hqi
     obtain rfl := Option.some.inj ho
     unfold wpOp
     simp only [ho]
     rw [if_pos (by rfl)]
     left
     rw [frame74]
     go_simp
     refine metK (hK.out (.pointer (some ⟨w'.heap.size, 0, none⟩)) _ ⟨w'.heap.size, rfl, hph.size, heap_alloc_new w' _, hph.trans ((Below.refl _ w').alloc (Nat.le_refl _) _)⟩ (fun g cs fr hg => (Below.heap_alloc _ _ _ (Array.getElem?_eq_some_iff.1 hg).1).trans hg)) ?_
     simp [frame74, Act.put, *]
    ·obtain rfl : 16 = i := hqi
     obtain rfl := Option.some.inj ho
     have e7 : X 7 = v0 := hX 0 7 (by simp) (by kernel_rfl)
     have e56 : X 56 = _ := hI 56 (by kernel_rfl)
     obtain ⟨g, rfl, hg1, hg2, hE1⟩ := hph
     have c0 : w'.cell? ⟨g, 0, none⟩ = some (.string ⟨#[]⟩) := ArrB.cell hg2 0 _ rfl
     have c1 : w'.cell? ⟨g, 1, none⟩ = some (.string ⟨#[]⟩) := ArrB.cell hg2 1 _ rfl
     have z0 := ArrB.frozen hg2 0
     have z1 := ArrB.frozen hg2 1
     unfold wpOp
     simp only [ho]
     rw [if_pos (by rfl)]
     left
     rw [frame74]
     go_simp
     refine metK (hK.out undef _ ⟨g, rfl, hg1, ArrB.set (ArrB.set hg2 0 (.string (nmM d1))) 1 (.string (vlM d2)), Below.setCell (Below.setCell hE1 hg1 _) hg1 _⟩ (fun g' cs fr hg' => by have hne : g' ≠ g := (fun e => by subst e; rw [hg2] at hg'; cases hg'); exact (Below.heap_setCell _ _ _ _ hne).trans ((Below.heap_setCell _ _ _ _ hne).trans hg'))) ?_
     simp [frame74, Act.put, *]
    ·simp at hql <;> omega
   ·intro vs X w' hlen hph hX hI
    have e0 : X 0 = _ := hI 0 (by omega) (by kernel_rfl)
    have e1 : X 1 = _ := hI 1 (by omega) (by kernel_rfl)
    have e2 : X 2 = _ := hI 2 (by omega) (by kernel_rfl)
    have e3 : X 3 = _ := hI 3 (by omega) (by kernel_rfl)
    have e4 : X 4 = _ := hI 4 (by omega) (by kernel_rfl)
    have e5 : X 5 = _ := hI 5 (by omega) (by kernel_rfl)
    have e6 : X 6 = _ := hI 6 (by omega) (by kernel_rfl)
    have e10 : X 10 = _ := hI 10 (by omega) (by kernel_rfl)
    have e11 : X 11 = _ := hI 11 (by omega) (by kernel_rfl)
    have e12 : X 12 = _ := hI 12 (by omega) (by kernel_rfl)
    have e13 : X 13 = _ := hI 13 (by omega) (by kernel_rfl)
    have e14 : X 14 = _ := hI 14 (by omega) (by kernel_rfl)
    have e15 : X 15 = _ := hI 15 (by omega) (by kernel_rfl)
    have e16 : X 16 = _ := hI 16 (by omega) (by kernel_rfl)
    have e17 : X 17 = _ := hI 17 (by omega) (by kernel_rfl)
    have e18 : X 18 = _ := hI 18 (by omega) (by kernel_rfl)
    have e19 : X 19 = _ := hI 19 (by omega) (by kernel_rfl)
    have e20 : X 20 = _ := hI 20 (by omega) (by kernel_rfl)
    have e21 : X 21 = _ := hI 21 (by omega) (by kernel_rfl)
    have e22 : X 22 = _ := hI 22 (by omega) (by kernel_rfl)
    have e23 : X 23 = _ := hI 23 (by omega) (by kernel_rfl)
    have y42 := hI 42 (by omega) (by kernel_rfl)
    have e43 : X 43 = _ := hI 43 (by omega) (by kernel_rfl)
    have e44 : X 44 = _ := hI 44 (by omega) (by kernel_rfl)
    have e45 : X 45 = _ := hI 45 (by omega) (by kernel_rfl)
    have e46 : X 46 = _ := hI 46 (by omega) (by kernel_rfl)
    have e47 : X 47 = _ := hI 47 (by omega) (by kernel_rfl)
    have y48 := hI 48 (by omega) (by kernel_rfl)
    have e49 : X 49 = _ := hI 49 (by omega) (by kernel_rfl)
    have y50 := hI 50 (by omega) (by kernel_rfl)
    have e51 : X 51 = _ := hI 51 (by omega) (by kernel_rfl)
    have e52 : X 52 = _ := hI 52 (by omega) (by kernel_rfl)
    have e53 : X 53 = _ := hI 53 (by omega) (by kernel_rfl)
    have y54 := hI 54 (by omega) (by kernel_rfl)
    have e55 : X 55 = _ := hI 55 (by omega) (by kernel_rfl)
    have e56 : X 56 = _ := hI 56 (by omega) (by kernel_rfl)
    have e73 : X 73 = _ := hI 73 (by omega) (by kernel_rfl)
    rcases vs with _ | ⟨v0, _ | ⟨v1, _ | ⟨vz, vs⟩⟩⟩
    ·simp at hlen
    ·simp at hlen
    rotate_left
    ·simp at hlen
    have e7 : X 7 = v0 := hX 0 7 (by simp) (by kernel_rfl)
    clear hX hI hlen
    rw [frame74]
    simp only [e0, e1, e2, e3, e4, e5, e6, e7, e10, e11, e12, e13, e14, e15, e16, e17, e18, e19, e20, e21, e22, e23, e43, e44, e45, e46, e47, e49, e51, e52, e53, e55, e56, e73]
    obtain ⟨g, rfl, hg1, hg2, hE1⟩ := hph
    have HG := hide hg2
    have HE1 := hide hE1
    have c70 : w'.cell? ⟨g, 0, none⟩ = some (.string (nmM d1)) := ArrB.cell hg2 0 _ rfl
    have c71 : w'.cell? ⟨g, 1, none⟩ = some (.string (vlM d2)) := ArrB.cell hg2 1 _ rfl
    obtain ⟨hbw, hEw, hvv, hbx, hown⟩ := HMB.out
    have hbx' := (hE1.block _ (Array.getElem?_eq_some_iff.1 hbx).1).trans hbx
    have hown' := owns_ext hown hE1
    have c42 : w'.cell? ⟨b4, 2, none⟩ = some hvv := ArrB.cell hbx' 2 _ rfl
    have hget := rget_any H (nmM d1) hvv w' (Sl.of_own' encH_len hown')
    obtain ⟨fnd, hfnd⟩ : ∃ f, (getH H (bl (nmM d1))).isSome = f := ⟨_, rfl⟩
    obtain ⟨got, hgot⟩ : ∃ f, (getH H (bl (nmM d1))).getD ⟨#[]⟩ = f := ⟨_, rfl⟩
    rw [hfnd, hgot] at hget
    have hst2 := HN2.out
    try simp only at hst2
    rw [hfnd] at hst2
    have HST := hide hst2
    have HGET := hide hget
    have HBX := hide hbx'
    have HOW := hide hown'
    have HEW := hide (Ext.trans hEw hE1)
    have HBW := hide hbw
    have HB5 := hide ((hE1.block _ (Array.getElem?_eq_some_iff.1 HB.out).1).trans HB.out)
    obtain ⟨xa, xc, hvs⟩ := owns_shape hown'
    subst hvs
    generalize w' = W5 at *
    clear hst2 hget hbx' hown' hg2 hE1 hEw hbw hbx hown hfnd hgot HN2 e56 y42 y48 y50 y54
    cases fnd with
    | true =>
     have hst3 := HST.out
     rw [if_pos (show true = true from rfl)] at hst3
     have HST3 := hide hst3
     clear hst3 HST
     go_wp2_with fail
     refine HGET.out.mono ?_
     rintro e w6 ⟨rfl, rfl⟩
     go_wp2
     go_roundw
     case rel => exact ⟨i + 1, H, by go_num, by omega, by omega, ⟨HBW.out, HEW.out, _, HBX.out, HOW.out⟩, HB5.out, HST3.out.symm⟩
     case measure => simp [intOf] <;> omega
    | false =>
     have hst3 := HST.out
     rw [if_neg (show ¬ (false = true) by simp)] at hst3
     have HST3 := hide hst3
     clear hst3 HST
     go_wp2_with fail
     refine HGET.out.mono ?_
     rintro e w6 ⟨rfl, rfl⟩
     have c42' : W5.cell? ⟨b4, 2, none⟩ = some (.slice xa H.length xc) := c42
     go_upto_region 13 with (fail)
     obtain ⟨ih, hih0, hih1, hih2, hih3⟩ := info_partsS Tryz.infoH
     refine wp_region_lit ?_
     refine wpList_plain rfl fun K hK => ?_
     go_simp
     refine hK _ _ ?_
     refine wpList_plain rfl fun K hK => ?_
     go_simp
     refine hK _ _ ?_
     refine wpList_plain rfl fun K hK => ?_
     go_simp
     refine hK _ _ ?_
     refine wpList_plain rfl fun K hK => ?_
     go_simp
     refine hK _ _ ?_
     have hsl : Heads (W5.alloc (.cells #[.string (nmM d1), .string (vlM d2)] 169)) (.slice (some ⟨W5.heap.size, 0, none⟩) 1 1) [(nmM d1, vlM d2)] := by
      have h := World.ownsRow_lit (base := 0) (e := 169) (size := 2) W5 #[.string (nmM d1), .string (vlM d2)] 1 (Nat.zero_le _) (by unfold maxLen; omega) rfl
      exact Sl.of_own' (enc := encH) (xs := [(nmM d1, vlM d2)]) encH_len (base := 0) (e := 169) h
     have hxa : Ext W5 (W5.alloc (.cells #[.string (nmM d1), .string (vlM d2)] 169)) := (Below.refl _ _).alloc (Nat.le_refl _) _
     have hHl : H.length ≤ 2 := by
      have h1 : ∀ (H : List HeadD) (a b : Nat), (stepM H a b).length ≤ H.length + 1 := fun H a b => by
       unfold stepM
       split
       ·split
        ·omega
        ·simp
       ·omega
      have h2 := HH2.out
      rcases (by omega : i = 1 ∨ i = 2) with rfl | rfl
      ·rw [if_pos rfl] at h2
       subst h2
       simp
      ·rw [if_neg (by omega), if_pos rfl] at h2
       have := h1 [] 1 (arN k1 1000)
       rw [← h2] at this
       simp at this
       omega
     refine wpList_append_sl (enc := encH) rfl _ _ _ rfl w.heap.size 169 ih _ 2 32 Tryz.underlying46 hih0 hih1 hih2 hih3 rfl (by decide) encH_len (.slice xa H.length xc) H.length (H.flatMap encH) rfl (owns_ext HOW.out hxa) _ rfl [(nmM d1, vlM d2)] hsl (fun x _ => encH_one x) (by unfold maxLen; simp; omega) (by simp; omega) (Nat.le_trans (Ext.trans HEW.out hxa).size (Nat.le_refl _)) ?_
     intro v7 w7 hown7 hg7
     obtain ⟨x7, y7, hv7⟩ := owns_shape hown7
     subst hv7
     have hk7 : Keeps (fun q => (Value.slice xa H.length xc).ownBlock = some q) W5 w7 := (Keeps.of_ext hxa).trans (Keeps.of_grown hg7 (fun q h => h))
     have hnb4 : ¬ (Value.slice xa H.length xc).ownBlock = some b4 := fun e => absurd (owns_type HOW.out e HBX.out) (by decide)
     have hnb2 : ¬ (Value.slice xa H.length xc).ownBlock = some w.heap.size := fun e => absurd (owns_type HOW.out e HB5.out) (by decide)
     have hb47 := (hk7.block _ (Array.getElem?_eq_some_iff.1 HBX.out).1 hnb4).trans HBX.out
     have hb27 := (hk7.block _ (Array.getElem?_eq_some_iff.1 HB5.out).1 hnb2).trans HB5.out
     have c7 : w7.cell? ⟨b4, 2, none⟩ = some (.slice xa H.length xc) := ArrB.cell hb47 2 _ rfl
     have z7 := ArrB.frozen hb47 2
     have hE7 : Ext w w7 := Keeps.ext HEW.out hk7 (fun q hq => (HOW.out.lt q hq).1)
     have hset := ArrB.set hb47 2 (.slice x7 (H.length + 1) y7)
     have hsk := Keeps.of_set (X := fun q => q = b4) w7 b4 2 (.slice x7 (H.length + 1) y7) rfl
     have hownF : (w7.setCell ⟨b4, 2, none⟩ (.slice x7 (H.length + 1) y7)).ownsRow w.heap.size 169 2 (.slice x7 (H.length + 1) y7) (H ++ [(nmM d1, vlM d2)]).length ((H ++ [(nmM d1, vlM d2)]).flatMap encH) := by
      have h1 : w7.ownsRow w.heap.size 169 2 (.slice x7 (H.length + 1) y7) (H ++ [(nmM d1, vlM d2)]).length ((H ++ [(nmM d1, vlM d2)]).flatMap encH) := by simpa using hown7
      exact owns_keeps h1 hsk (fun q hq e => by subst e; exact absurd (owns_type h1 hq hb47) (by decide))
     have hb2F := (Below.heap_setCell w7 ⟨b4, 2, none⟩ (.slice x7 (H.length + 1) y7) w.heap.size HNE.out.symm).trans hb27
     have hEF := Below.setCell (p := ⟨b4, 2, none⟩) hE7 HBW.out (.slice x7 (H.length + 1) y7)
     refine wpList_plain rfl fun K hK => ?_
     go_simp
     refine hK _ _ ?_
     refine wpList_plain rfl fun K hK => ?_
     go_simp
     refine hK _ _ ?_
     refine wpList_nil ?_
     generalize w7.setCell ⟨b4, 2, none⟩ (.slice x7 (H.length + 1) y7) = W8 at hset hownF hb2F hEF ⊢
     have HSET := hide hset
     have HOWF := hide hownF
     have HB2F := hide hb2F
     have HEF := hide hEF
     clear hset hownF hb2F hEF hsk z7 c7 hE7 hb47 hb27 hk7 hown7 hg7 hsl hxa c42' c70 c71
     go_wp2
     go_roundw
     case rel => exact ⟨i + 1, H ++ [(nmM d1, vlM d2)], by go_num, by omega, by omega, ⟨HBW.out, HEF.out, _, HSET.out, HOWF.out⟩, HB2F.out, HST3.out.symm⟩
     case measure => simp [intOf] <;> omega
  ·obtain rfl : i = 3 := by omega
   have hH : H = matchH k1 k2 := HH.out
   subst hH
   obtain ⟨hbw, hEw, hv, hbx, hown⟩ := HMB.out
   obtain ⟨xa, xc, hvs⟩ := owns_shape hown
   subst hvs
   have c0 : wr.cell? ⟨b4, 0, none⟩ = some (.string s) := ArrB.cell hbx 0 _ rfl
   have c1 : wr.cell? ⟨b4, 1, none⟩ = some (.bool ex) := ArrB.cell hbx 1 _ rfl
   have c2 : wr.cell? ⟨b4, 2, none⟩ = some (.slice xa (matchH k1 k2).length xc) := ArrB.cell hbx 2 _ rfl
   have f0 : wr.cell? ⟨w.heap.size, 0, none⟩ = some (.string ⟨#[]⟩) := ArrB.cell HB.out 0 _ rfl
   have f1 : wr.cell? ⟨w.heap.size, 1, none⟩ = some (.bool false) := ArrB.cell HB.out 1 _ rfl
   have f2 : wr.cell? ⟨w.heap.size, 2, none⟩ = some (.slice none 0 0) := ArrB.cell HB.out 2 _ rfl
   have z0 := ArrB.frozen HB.out 0
   have z1 := ArrB.frozen HB.out 1
   have z2 := ArrB.frozen HB.out 2
   have hsk : Keeps (fun q => q = w.heap.size) wr (((wr.setCell ⟨w.heap.size, 0, none⟩ (.string s)).setCell ⟨w.heap.size, 1, none⟩ (.bool ex)).setCell ⟨w.heap.size, 2, none⟩ (.slice xa (matchH k1 k2).length xc)) :=
    ((Keeps.of_set (X := fun q => q = w.heap.size) wr w.heap.size 0 (.string s) rfl).trans (Keeps.of_set (X := fun q => q = w.heap.size) _ w.heap.size 1 (.bool ex) rfl)).trans (Keeps.of_set (X := fun q => q = w.heap.size) _ w.heap.size 2 _ rfl)
   have hEF : Ext w (((wr.setCell ⟨w.heap.size, 0, none⟩ (.string s)).setCell ⟨w.heap.size, 1, none⟩ (.bool ex)).setCell ⟨w.heap.size, 2, none⟩ (.slice xa (matchH k1 k2).length xc)) := Keeps.ext hEw hsk (fun q hq => by omega)
   have hownF := owns_keeps hown hsk (fun q hq e => by subst e; exact absurd (owns_type hown hq HB.out) (by decide))
   have hset := ArrB.set (ArrB.set (ArrB.set HB.out 0 (.string s)) 1 (.bool ex)) 2 (.slice xa (matchH k1 k2).length xc)
   have HEF := hide hEF
   have HOWF := hide hownF
   have HSET := hide hset
   clear hsk hEF hownF hset hown hbx hEw hlt
   obtain ⟨dm, hdm1, hdm2⟩ := Tryz.matchDesc
   go_wp2_with fail
   (try simp only [Exit.inBlock, Exit.then])
   refine bodyPost_ret (results_cell_mid rfl _ _ w.heap.size 0 [.string s, .bool ex, .slice xa (matchH k1 k2).length xc] dm rfl ?_ hdm1 hdm2 Tryz.matchSize) rfl ?_
   ·intro j v hv
    rw [Nat.zero_add]
    exact ArrB.cell HSET.out j v (by simpa using hv)
   ·exact ⟨s, _, rfl, HS5.out, HOWF.out, HEF.out⟩
end Go.Proofs.YtmpciohmljpncaaGreatDoor
