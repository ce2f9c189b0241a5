/- split.Check, split.Each. -/
import Derived.BigQuiet
import Derived.Deep.QuietTactic
import Derived.Test.YtgeddiondjoedaaSplitD
namespace Go.Proofs.Ytgeddiondjoedaa
open Go.ChangeShapes Go.WideShapes Go.ChangeAt Go.RowKit

def checkGo : List (Int × Int) → List Int → Int
  | [], _ => 0
  | p :: l, seen => if p.1 < 1 ∨ 10 < p.1 ∨ p.1 ∈ seen then 13 else if p.2 < 0 ∨ 100 < p.2 then 12 else checkGo l (seen ++ [p.1])
def check (ps : List (Int × Int)) : Int := if checkGo ps [] ≠ 0 then checkGo ps [] else if sumW ps = 0 then 12 else 0
def firsts (ps : List (Int × Int)) : List Int := ps.map (·.1)
theorem checkGo_drop (ps : List (Int × Int)) (k : Nat) (h : k < ps.length) : checkGo (ps.drop k) (firsts (ps.take k)) =
    if ps[k].1 < 1 ∨ 10 < ps[k].1 ∨ ps[k].1 ∈ firsts (ps.take k) then 13 else if ps[k].2 < 0 ∨ 100 < ps[k].2 then 12 else checkGo (ps.drop (k+1)) (firsts (ps.take (k+1))) := by
  rw [List.drop_eq_getElem_cons h, take_snoc ps k h]
  simp only [checkGo, firsts, List.map_append, List.map_cons, List.map_nil]
  rfl
/-- what the loop over all parts has come to -/
def wellTo (ps : List (Int × Int)) (k : Nat) : Prop := ∀ i (h : i < ps.length), i < k → 0 ≤ ps[i].2 ∧ ps[i].2 ≤ 100
theorem wellTo_fits (ps : List (Int × Int)) (h : wellTo ps ps.length) (hl : ps.length ≤ 1000000) : SumFits ps := by
  have key : ∀ k, k ≤ ps.length → 0 ≤ sumW (ps.take k) ∧ sumW (ps.take k) ≤ 100 * k := by
    intro k hk
    induction k with
    | zero => simp [sumW]
    | succ k ih =>
      have := ih (by omega)
      have h2 := h k hk hk
      rw [sumW_snoc ps k hk]
      omega
  intro k hk
  have := key k hk
  omega

def eachB (k n : Int) : Bool := decide (0 < k ∧ 0 < n ∧ n % k = 0)
theorem each_any (k n : Int) (w : World) (hk : I64 k) (hn : I64 n) :
    Calls Try.prog 21 #[.int .i64 k, .int .i64 n] w fun e w' => e = .returned (.bool (eachB k n)) ∧ w = w' := by
  unfold I64 at hk hn
  by_cases h1 : 0 < k
  · by_cases h2 : 0 < n
    · by_cases h3 : n % k = 0
      · have h3' : (n % k == 0) = true := by simp [h3]
        have hf : eachB k n = true := decide_eq_true ⟨h1, h2, h3⟩
        have HF := hide hf; clear hf h3
        go_enter Try.func21, Try.ntmps21
        go_wp2
        go_ret
        exact ⟨ret_bool HF.out.symm, rfl⟩
      · have h3' : (n % k == 0) = false := by simp [h3]
        have hf : eachB k n = false := decide_eq_false (fun h => h3 h.2.2)
        have HF := hide hf; clear hf h3
        go_enter Try.func21, Try.ntmps21
        go_wp2
        go_ret
        exact ⟨ret_bool HF.out.symm, rfl⟩
    · have hf : eachB k n = false := decide_eq_false (fun h => h2 h.2.1)
      have HF := hide hf; clear hf
      have h2' : n ≤ 0 := by omega
      go_enter Try.func21, Try.ntmps21
      go_wp2
      go_ret
      exact ⟨ret_bool HF.out.symm, rfl⟩
  · have hf : eachB k n = false := decide_eq_false (fun h => h1 h.1)
    have HF := hide hf; clear hf
    have h2' : k ≤ 0 := by omega
    go_enter Try.func21, Try.ntmps21
    go_wp2
    go_ret
    exact ⟨ret_bool HF.out.symm, rfl⟩

/-- the row of marks in block B: which services were seen -/
def Marks (W : World) (B : Nat) (l : List Int) : Prop :=
  ∃ cs : Array Value, W.heap[B]? = some (.cells cs 42 (0, 0)) ∧ cs.size = 11 ∧ ∀ i : Nat, i < 11 → cs[i]? = some (.bool (decide ((i : Int) ∈ l)))
theorem Marks.lt {W : World} {B : Nat} {l : List Int} (h : Marks W B l) : B < W.heap.size := by obtain ⟨cs, h, _⟩ := h; exact (Array.getElem?_eq_some_iff.1 h).1
theorem Marks.cell {W : World} {B : Nat} {l : List Int} (h : Marks W B l) (x : Int) (h0 : 0 ≤ x) (h1 : x ≤ 10) : W.cell? ⟨B, x.toNat, none⟩ = some (.bool (decide (x ∈ l))) := by
  obtain ⟨cs, hb, hs, hc⟩ := h
  have := hc x.toNat (by omega)
  rw [Int.toNat_of_nonneg h0] at this
  simp [World.cell?, hb, this]
theorem Marks.frozen {W : World} {B : Nat} {l : List Int} (h : Marks W B l) (o : Nat) : W.frozen? ⟨B, o, none⟩ = false := by
  obtain ⟨cs, hb, hs, hc⟩ := h
  simp [World.frozen?, hb]
theorem Marks.ext {W W' : World} {B : Nat} {l : List Int} (h : Marks W B l) (e : Ext W W') : Marks W' B l := by
  have hl := h.lt
  obtain ⟨cs, hb, hs, hc⟩ := h
  exact ⟨cs, (e.block B hl).trans hb, hs, hc⟩
theorem Marks.set {W : World} {B : Nat} {l : List Int} (h : Marks W B l) (x : Int) (h0 : 0 ≤ x) (h1 : x ≤ 10) : Marks (W.setCell ⟨B, x.toNat, none⟩ (.bool true)) B (l ++ [x]) := by
  obtain ⟨cs, hb, hs, hc⟩ := h
  obtain ⟨hlt, hk⟩ := Array.getElem?_eq_some_iff.1 hb
  refine ⟨cs.setIfInBounds x.toNat (.bool true), ?_, by simp [hs], ?_⟩
  · show (W.heap.modify B _)[B]? = _
    rw [Array.getElem?_eq_getElem (by rw [Array.size_modify]; exact hlt), Array.getElem_modify_self, hk]
    rfl
  · intro i hi
    rw [Array.getElem?_setIfInBounds]
    by_cases hx : x.toNat = i
    · have : (i : Int) = x := by omega
      simp [hx, hs, hi, this]
    · have : (i : Int) ≠ x := by omega
      rw [if_neg hx, hc i hi]
      simp [this]
theorem Marks.new (W : World) : Marks (W.alloc (.cells (Array.replicate 11 (.bool false)) 42)) W.heap.size [] := by
  refine ⟨_, World.alloc_heap_new W _, by simp, ?_⟩
  intro i hi
  simp [hi]

set_option maxHeartbeats 2000000 in
theorem check_any (ps : List (Int × Int)) (v : Value) (w : World) (hs : Parts w v ps) (hp : ∀ p ∈ ps, I64 p.1 ∧ I64 p.2) (hl : ps.length ≤ 1000000) :
    Calls Try.prog 11 #[v] w fun e w' => e = .returned (.int .i64 (check ps)) ∧ Ext w w' := by
  have HC := hide hs
  have HP := hide hp; clear hp
  obtain ⟨hl', a, cap, rfl⟩ := hs.shape
  clear hs
  go_enter Try.func11, Try.ntmps11
  go_wp2
  go_loopw [8] (fun i wr => ∃ k : Nat, k ≤ ps.length ∧ i = .int .i64 k ∧ Marks wr w.heap.size (firsts (ps.take k)) ∧ Ext w wr ∧ wellTo ps k ∧ checkGo ps [] = checkGo (ps.drop k) (firsts (ps.take k))) (fun i _ => ps.length - (intOf i).toNat)
  case atStart => exact ⟨0, Nat.zero_le _, rfl, Marks.new w, (Below.refl _ w).alloc (Nat.le_refl _) _, fun i h hi => by omega, rfl⟩
  case round =>
    obtain ⟨k, hk, rfl, hM, hE, hW, hG⟩ := hrel
    have HW := hide hW
    have HG := hide hG
    clear hW hG
    have hMl := hM.lt
    have hsz := hE.size
    by_cases hlt : k < ps.length
    · obtain ⟨b, off, heq, hbb, c0, c1⟩ := parts_at (HC.out.ext hE) k hlt
      subst heq
      have hpk := HP.out ps[k] (List.getElem_mem _)
      unfold I64 at hpk
      have hd := checkGo_drop ps k hlt
      have HD := hide hd; clear hd
      by_cases h1 : ps[k].1 < 1
      · have hf : check ps = 13 := by
          have : checkGo ps [] = 13 := by rw [HG.out, HD.out, if_pos (.inl h1)]
          rw [check, this]; rfl
        have HF := hide hf; clear hf
        go_wp2
        go_ret
        exact ⟨ret_int HF.out.symm, hE.alloc hsz _⟩
      by_cases h2 : 10 < ps[k].1
      · have hf : check ps = 13 := by
          have : checkGo ps [] = 13 := by rw [HG.out, HD.out, if_pos (.inr (.inl h2))]
          rw [check, this]; rfl
        have HF := hide hf; clear hf
        go_wp2
        go_ret
        exact ⟨ret_int HF.out.symm, hE.alloc hsz _⟩
      have h1' : 1 ≤ ps[k].1 := by omega
      have h2' : ps[k].1 ≤ 10 := by omega
      have hMc := hM.cell ps[k].1 (by omega) h2'
      have hMf := hM.frozen ps[k].1.toNat
      by_cases h3 : ps[k].1 ∈ firsts (ps.take k)
      · have hb : decide (ps[k].1 ∈ firsts (ps.take k)) = true := decide_eq_true h3
        rw [hb] at hMc
        clear hb
        have hf : check ps = 13 := by
          have : checkGo ps [] = 13 := by rw [HG.out, HD.out, if_pos (.inr (.inr h3))]
          rw [check, this]; rfl
        have HF := hide hf; clear hf
        clear h3
        go_wp2
        go_ret
        exact ⟨ret_int HF.out.symm, hE.alloc hsz _⟩
      have hb : decide (ps[k].1 ∈ firsts (ps.take k)) = false := decide_eq_false h3
      rw [hb] at hMc
      clear hb
      have n1 : ¬ (ps[k].1 < 1 ∨ 10 < ps[k].1 ∨ ps[k].1 ∈ firsts (ps.take k)) := by rintro (h | h | h); exact h1 h; exact h2 h; exact h3 h
      have N1 := hide n1; clear n1 h3
      by_cases h4 : ps[k].2 < 0
      · have hf : check ps = 12 := by
          have : checkGo ps [] = 12 := by rw [HG.out, HD.out, if_neg N1.out, if_pos (.inl h4)]
          rw [check, this]; rfl
        have HF := hide hf; clear hf
        go_wp2
        go_ret
        exact ⟨ret_int HF.out.symm, hE.alloc hsz _⟩
      by_cases h5 : 100 < ps[k].2
      · have hf : check ps = 12 := by
          have : checkGo ps [] = 12 := by rw [HG.out, HD.out, if_neg N1.out, if_pos (.inr h5)]
          rw [check, this]; rfl
        have HF := hide hf; clear hf
        go_wp2
        go_ret
        exact ⟨ret_int HF.out.symm, hE.alloc hsz _⟩
      have hf : checkGo ps [] = checkGo (ps.drop (k+1)) (firsts (ps.take (k+1))) := by rw [HG.out, HD.out, if_neg N1.out, if_neg (by omega)]
      have HF := hide hf; clear hf
      have h4' : 0 ≤ ps[k].2 := by omega
      have h5' : ps[k].2 ≤ 100 := by omega
      have hx1 : firsts (ps.take k) ++ [ps[k].1] = firsts (ps.take (k+1)) := by rw [take_snoc ps k hlt]; simp only [firsts, List.map_append, List.map_cons, List.map_nil]
      have HX := hide hx1; clear hx1
      go_wp2
      go_roundw
      case rel =>
        refine ⟨k + 1, by omega, by go_num, ?_, (hE.setCell (p := ⟨w.heap.size, ps[k].1.toNat, none⟩) (Nat.le_refl _) _).alloc (by simp [World.setCell]; omega) _, ?_, HF.out⟩
        · rw [← HX.out]
          exact (hM.set ps[k].1 (by omega) h2').ext ((Below.refl _ _).alloc (Nat.le_refl _) _)
        · intro i hi hik
          by_cases e : i = k
          · subst e; exact ⟨h4', h5'⟩
          · exact HW.out i hi (by omega)
      case measure => simp [intOf]; omega
    · obtain rfl : k = ps.length := by omega
      have hz : checkGo ps [] = 0 := by rw [HG.out, List.drop_length]; rfl
      have hb := wellTo_fits ps HW.out hl
      by_cases h6 : sumW ps = 0
      · have hf : check ps = 12 := by rw [check, hz, if_neg (by simp), if_pos h6]
        have HF := hide hf; clear hf hz
        have h6' : (sumW ps == 0) = true := by simp [h6]
        clear h6
        go_wp2_with (go_at_call 12; refine (sum_any ps _ _ (HC.out.ext hE) hb).mono ?_; rintro e w' ⟨rfl, hx⟩)
        go_ret
        exact ⟨ret_int HF.out.symm, hE.trans hx⟩
      · have hf : check ps = 0 := by rw [check, hz, if_neg (by simp), if_neg h6]
        have HF := hide hf; clear hf hz
        have h6' : (sumW ps == 0) = false := by simp [h6]
        clear h6
        go_wp2_with (go_at_call 12; refine (sum_any ps _ _ (HC.out.ext hE) hb).mono ?_; rintro e w' ⟨rfl, hx⟩)
        go_ret
        exact ⟨ret_int HF.out.symm, hE.trans hx⟩
end Go.Proofs.Ytgeddiondjoedaa
