
/- route.within, route.first. -/
import Derived.Test.YtlaaapfpchnmeaaGreatDoorMtD
namespace Go.Proofs.YtlaaapfpchnmeaaGreatDoor
open Go.ChangeShapes Go.WideShapes Go.ChangeAt Go.RowKit Go.Lib Go.Shelf
def outB (low high n : Int) : Bool := decide (n < low) || decide (high < n)
def wchk (lo hi z : Int) (L : List Int) : Int := if L.any (outB lo hi) = true then z else 0
theorem wchk_t {lo hi z : Int} {L : List Int} (h : L.any (outB lo hi) = true) : z = wchk lo hi z L := by unfold wchk; rw [if_pos h]
theorem wchk_f {lo hi z : Int} {L : List Int} (h : L.any (outB lo hi) = false) : 0 = wchk lo hi z L := by unfold wchk; rw [h]; rfl
/-- a question: a function that tells a number, whatever blocks have come -/
def Asks (w : World) (v : Value) (z : Int) : Prop := ∃ k caps, v = .func (.func k) #[] caps ∧ (∀ w, (callFunc k caps).run Tryz.prog w = .ok (.enter k caps) w) ∧ ∀ w', Ext w w' → Calls Tryz.prog k caps w' fun e w'' => e = .returned (.int .i64 z) ∧ Ext w' w''
theorem Asks.ext {w w' : World} {v : Value} {z : Int} (h : Asks w v z) (e : Ext w w') : Asks w' v z := by
  obtain ⟨k, c, h1, h2, h3⟩ := h
  exact ⟨k, c, h1, h2, fun w'' e' => h3 w'' (Ext.trans e e')⟩
set_option maxRecDepth 100000 in
set_option maxHeartbeats 2000000 in
theorem within1_any (L : List Int) (lo hi z : Int) (v : Value) (b0 b1 b2 b3 : Nat) (w : World) (hs : Ints w v L) (c0 : w.cell? ⟨b0, 0, none⟩ = some v) (c1 : w.cell? ⟨b1, 0, none⟩ = some (.int .i64 lo)) (c2 : w.cell? ⟨b2, 0, none⟩ = some (.int .i64 hi)) (c3 : w.cell? ⟨b3, 0, none⟩ = some (.int .i64 z)) :
    Calls Tryz.prog 92 #[.pointer (some ⟨b0, 0, none⟩), .pointer (some ⟨b1, 0, none⟩), .pointer (some ⟨b2, 0, none⟩), .pointer (some ⟨b3, 0, none⟩)] w fun e w' => e = .returned (.int .i64 (wchk lo hi z L)) ∧ Ext w w' := by
  obtain ⟨_, a, c, rfl⟩ := hs.shape
  have HS := hide hs
  clear hs
  go_enter Tryz.func92, Tryz.ntmps92
  go_wp2_with fail
  go_loopw [9] (fun i wr => ∃ k : Nat, k ≤ L.length ∧ i = .int .i64 k ∧ (L.take k).any (outB lo hi) = false ∧ wr = w) (fun i _ => L.length - (intOf i).toNat)
  case atStart => exact ⟨0, by omega, rfl, by simp, rfl⟩
  case round =>
    obtain ⟨k, hk, rfl, hok, rfl⟩ := hrel
    by_cases hlt : k < L.length
    · obtain ⟨b, off, rfl, hbb, hc⟩ := ints_at HS.out k hlt
      obtain ⟨x, hx⟩ : ∃ x, L[k] = x := ⟨_, rfl⟩
      have hsn : (L.take (k + 1)).any (outB lo hi) = outB lo hi x := by rw [take_snoc L k hlt, List.any_append, hok, hx]; simp
      have hbd : outB lo hi x = true → L.any (outB lo hi) = true := fun h => by
        rw [List.any_eq_true]; exact ⟨L[k], List.getElem_mem hlt, by rw [hx]; exact h⟩
      rw [hx] at hc
      have HSN := hide hsn
      have HBD := hide hbd
      clear hsn hbd hok hx
      by_cases hl : x < lo
      · have HO := hide (HBD.out (by simp [outB, hl]))
        go_wp2
        go_ret
        exact ⟨ret_int (wchk_t HO.out), Below.refl _ _⟩
      · by_cases hh : hi < x
        · have HO := hide (HBD.out (by simp [outB, hh]))
          go_wp2
          go_ret
          exact ⟨ret_int (wchk_t HO.out), Below.refl _ _⟩
        · have HO := hide (HSN.out.trans (show outB lo hi x = false by simp [outB, hl, hh]))
          go_wp2
          go_roundw
          case rel => exact ⟨k + 1, hlt, by go_num, HO.out, trivial⟩
          case measure => simp [intOf]; omega
    · obtain rfl : k = L.length := by omega
      rw [List.take_length] at hok
      have HOK := hide hok
      clear hok
      go_wp2
      go_ret
      exact ⟨ret_int (wchk_f HOK.out), Below.refl _ _⟩
set_option maxRecDepth 100000 in
set_option maxHeartbeats 2000000 in
theorem within_any (L : List Int) (lo hi z : Int) (v : Value) (w : World) (hs : Ints w v L) :
    Calls Tryz.prog 64 #[.int .i64 z, .int .i64 lo, .int .i64 hi, v] w fun e w' => ∃ u, e = .returned u ∧ Asks w' u (wchk lo hi z L) ∧ Ext w w' := by
  obtain ⟨_, a, c, rfl⟩ := hs.shape
  have HS := hide hs
  clear hs
  go_enter Tryz.func64, Tryz.ntmps64
  go_wp2_with fail
  go_ret
  refine ⟨_, rfl, ⟨92, _, rfl, fun w => by kernel_rfl, ?_⟩, ?_⟩
  · intro w' e'
    refine within1_any L lo hi z (.slice a L.length c) _ _ _ _ w' ?_ ?_ ?_ ?_ ?_
    · exact HS.out.ext (Ext.trans ((((Below.alloc (Below.refl _ w) (Nat.le_refl _) _).alloc (by simp) _).alloc (by simp; omega) _).alloc (by simp; omega) _) e')
    · exact (e'.cell (p := ⟨_, 0, none⟩) (by first | (simp; done) | (simp; omega))).trans (by go_simp)
    · exact (e'.cell (p := ⟨_, 0, none⟩) (by first | (simp; done) | (simp; omega))).trans (by go_simp)
    · exact (e'.cell (p := ⟨_, 0, none⟩) (by first | (simp; done) | (simp; omega))).trans (by go_simp)
    · exact (e'.cell (p := ⟨_, 0, none⟩) (by first | (simp; done) | (simp; omega))).trans (by go_simp)
  · exact ((((Below.alloc (Below.refl _ w) (Nat.le_refl _) _).alloc (by simp) _).alloc (by simp; omega) _).alloc (by simp; omega) _)
set_option maxRecDepth 100000 in
set_option maxHeartbeats 2000000 in
theorem first_any (Z : List Int) (a : Option Addr) (n c : Nat) (w : World) (hn : Z.length = n) (hl : n ≤ 1000) (hs : ∀ i (hi : i < Z.length), ∃ b off u, a = some ⟨b, off, none⟩ ∧ b < w.heap.size ∧ w.cell? ⟨b, off + i, none⟩ = some u ∧ Asks w u Z[i]) :
    Calls Tryz.prog 59 #[.slice a n c] w fun e w' => e = .returned (.int .i64 ((Z.find? (· != 0)).getD 0)) ∧ Ext w w' := by
  subst hn
  have HS := hide hs
  clear hs
  have hlz : (Z.length : Int) ≤ 1000 := by omega
  go_enter Tryz.func59, Tryz.ntmps59
  go_wp2_with fail
  go_loopw [8] (fun i wr => ∃ k : Nat, k ≤ Z.length ∧ i = .int .i64 k ∧ (Z.find? (· != 0)).getD 0 = ((Z.drop k).find? (· != 0)).getD 0 ∧ Ext w wr) (fun i _ => Z.length - (intOf i).toNat)
  case atStart => exact ⟨0, by omega, rfl, by simp, Below.refl _ _⟩
  case round =>
    obtain ⟨k, hk, rfl, hok, hext⟩ := hrel
    by_cases hlt : k < Z.length
    · obtain ⟨b, off, u, rfl, hbb, hc, hask⟩ := HS.out k hlt
      obtain ⟨j, caps, rfl, hen, hcall⟩ := hask.ext hext
      have hc' := (hext.cell (p := ⟨b, off + k, none⟩) hbb).trans hc
      obtain ⟨x, hx⟩ : ∃ x, Z[k] = x := ⟨_, rfl⟩
      have hd : Z.drop k = x :: Z.drop (k + 1) := by rw [← hx]; exact List.drop_eq_getElem_cons hlt
      rw [hd] at hok
      rw [hx] at hcall
      have HCALL := hide (hcall _ (Below.refl _ _))
      have HOK := hide hok
      clear hcall hok hask hd hx hc
      by_cases hx0 : x = 0
      · have hne : (x != 0) = false := by simp [hx0]
        go_wp2_with (go_at_fn j; refine HCALL.out.mono ?_; rintro e w7 ⟨rfl, E7⟩)
        go_roundw
        case rel =>
          refine ⟨k + 1, hlt, by go_num, ?_, Ext.trans hext E7⟩
          rw [HOK.out, List.find?_cons, hne]
        case measure => simp [intOf]; omega
      · have hne : (x != 0) = true := by simp [hx0]
        have HX := hide (show x = (Z.find? (· != 0)).getD 0 by rw [HOK.out, List.find?_cons, hne]; rfl)
        go_wp2_with (go_at_fn j; refine HCALL.out.mono ?_; rintro e w7 ⟨rfl, E7⟩)
        go_ret
        exact ⟨ret_int HX.out, Ext.trans hext E7⟩
    · obtain rfl : k = Z.length := by omega
      have HOK := hide hok
      clear hok
      go_wp2
      go_ret
      exact ⟨ret_int (by rw [HOK.out]; simp), hext⟩
end Go.Proofs.YtlaaapfpchnmeaaGreatDoor
