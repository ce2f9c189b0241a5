/- Merged texts (RtL, FdA). -/
import Derived.Test.YtopejlachgompaaGreatDoorRtJ
import Derived.Test.YtopejlachgompaaGreatDoorZm

/- Table.Find, Table.Len; ref08.New. -/
namespace Go.Proofs.YtopejlachgompaaGreatDoor
open Go.ChangeShapes Go.WideShapes Go.ChangeAt Go.RowKit Go.Lib Go.Shelf
def fitR (r : RuleD) (p : List UInt8) (H : List HeadD) : Bool := fitsB (bl r.path) r.ex r.H p H
def fitAt (Rs : List RuleD) (p : List UInt8) (H : List HeadD) (i : Int) : Bool := match Rs[i.toNat]? with | some r => fitR r p H | none => false
def findI (Rs : List RuleD) (I : List Int) (p : List UInt8) (H : List HeadD) : Option Int := I.find? (fitAt Rs p H)
theorem tab_cells {B b : Nat} {w : World} {Rs : List RuleD} {I : List Int} (h : TabAt B w b Rs I) : ∃ vr vi, w.cell? ⟨b, 0, none⟩ = some vr ∧ w.cell? ⟨b, 1, none⟩ = some vi ∧ Rules w vr Rs ∧ Ints w vi I ∧ b < w.heap.size ∧ w.heap[b]? = some (.cells #[vr, vi] 113 (0, 0)) := by
 obtain ⟨-, ⟨vr, vi, h1, h2, h3⟩, -⟩ := h
 refine ⟨vr, vi, ?_, ?_, Sl.of_own' encR_len h2, Sl.of_own' (enc := encI) (fun _ => rfl) h3, (Array.getElem?_eq_some_iff.1 h1).1, h1⟩
 ·simp only [World.cell?, h1]; rfl
 ·simp only [World.cell?, h1]; rfl
set_option maxRecDepth 100000 in
set_option maxHeartbeats 4000000 in
theorem find_any (B b : Nat) (Rs : List RuleD) (I : List Int) (p : ByteArray) (H : List HeadD) (hv : Value) (w : World) (hT : TabAt B w b Rs I) (hI : ∀ x ∈ I, 0 ≤ x ∧ x < Rs.length) (hp : SzB p) (hm : MaxV w) (hh : Heads w hv H) :
  Calls Tryz.prog 22 #[.pointer (some ⟨b, 0, none⟩), .string p, hv] w fun e w' => e = .returned (.tuple #[.int .i64 ((findI Rs I (bl p) H).getD 0), .bool (findI Rs I (bl p) H).isSome]) ∧ Ext w w' := by
 obtain ⟨vr, vi, c0, c1, hR, hi, hb, -⟩ := tab_cells hT
 have hown := hT.2.2
 obtain ⟨hlr, ar, cr, rfl⟩ := hR.shape
 obtain ⟨hli, ai, ci, rfl⟩ := hi.shape
 obtain ⟨_, ah, ch, rfl⟩ := hh.shape
 have HR := hide hR
 have HI := hide hi
 have HIN := hide hI
 have HH := hide hh
 have HM := hide hm
 have HO := hide hown
 have HP := hide hp
 have C0 := hide c0
 clear hR hi hI hh hm hown hT hp c0
 go_enter Tryz.func22, Tryz.ntmps22
 go_wp2_with fail
 go_loopw [15] (fun i wr => ∃ k : Nat, k ≤ I.length ∧ i = .int .i64 k ∧ findI Rs I (bl p) H = findI Rs (I.drop k) (bl p) H ∧ Ext w wr) (fun i _ => I.length - (intOf i).toNat)
 case atStart => exact ⟨0, by omega, rfl, by simp, Below.refl _ _⟩
 case round =>
  obtain ⟨k, hk, rfl, hok, hext⟩ := hrel
  have HOK := hide hok
  clear hok
  by_cases hlt : k < I.length
  ·obtain ⟨bi, oi, rfl, hbi, hci⟩ := ints_at HI.out k hlt
   obtain ⟨x, hx⟩ : ∃ x, I[k] = x := ⟨_, rfl⟩
   rw [hx] at hci
   have hci' := (hext.cell (p := ⟨bi, oi + k, none⟩) hbi).trans hci
   have hxr := HIN.out x (by rw [← hx]; exact List.getElem_mem hlt)
   obtain ⟨n, rfl⟩ := Int.eq_ofNat_of_zero_le hxr.1
   have hn : n < Rs.length := by omega
   obtain ⟨br, orr, rfl, hbr, hcr⟩ := rules_at HR.out n hn
   obtain ⟨r, hr⟩ : ∃ r, Rs[n] = r := ⟨_, rfl⟩
   have hro := HO.out r (by rw [← hr]; exact List.getElem_mem hn)
   rw [hr] at hcr
   have d0 := (hext.cell (p := ⟨br, orr + n * 19, none⟩) hbr).trans (hcr 0 _ rfl)
   have d1 := (hext.cell (p := ⟨br, orr + n * 19 + 1, none⟩) hbr).trans (hcr 1 _ rfl)
   have d2 := (hext.cell (p := ⟨br, orr + n * 19 + 2, none⟩) hbr).trans (hcr 2 _ rfl)
   have cc0 := (hext.cell (p := ⟨b, 0, none⟩) hb).trans C0.out
   obtain ⟨ax, cx, hhv⟩ := owns_shape hro.1
   have hf := fits_any r.path p r.ex r.H H r.hv (.slice ah H.length ch) wr HP.out (HM.out.ext hext) (hro.ok.ext hext).1 (HH.out.ext hext)
   rw [hhv] at d2 hf
   have hdrop : I.drop k = (n : Int) :: I.drop (k + 1) := by rw [← hx]; exact List.drop_eq_getElem_cons hlt
   have hat : fitAt Rs (bl p) H n = fitsB (bl r.path) r.ex r.H (bl p) H := by
    unfold fitAt fitR
    simp [List.getElem?_eq_getElem hn, hr]
   obtain ⟨f, hfe⟩ : ∃ f, fitsB (bl r.path) r.ex r.H (bl p) H = f := ⟨_, rfl⟩
   rw [hfe] at hf hat
   have hnx : findI Rs (I.drop k) (bl p) H = if f = true then some (n : Int) else findI Rs (I.drop (k + 1)) (bl p) H := by
    rw [hdrop]
    unfold findI
    rw [List.find?_cons, hat]
    cases f <;> rfl
   have HF := hide hf
   have HNX := hide (HOK.out.trans hnx)
   have hltz : (k : Int) < I.length := by omega
   have hnz : (n : Int) < Rs.length := by omega
   clear hf hnx hat hdrop hci hcr hro hr hhv hfe hxr hx HOK
   generalize r.path = rp at *
   generalize r.ex = rx at *
   generalize r.H.length = rn at *
   cases f with
   | true =>
    have hres := HNX.out
    rw [if_pos rfl] at hres
    have HRES := hide hres
    clear hres HNX
    go_wp2_with fail
    refine HF.out.mono ?_
    rintro e w9 ⟨rfl, E9⟩
    go_wp2
    go_ret2
    rw [HRES.out]
    exact ⟨rfl, Ext.trans hext E9⟩
   | false =>
    have hres := HNX.out
    rw [if_neg (by simp)] at hres
    have HRES := hide hres
    clear hres HNX
    go_wp2_with fail
    refine HF.out.mono ?_
    rintro e w9 ⟨rfl, E9⟩
    go_wp2
    go_roundw
    case rel => exact ⟨k + 1, hlt, by go_num, HRES.out, Ext.trans hext E9⟩
    case measure => simp [intOf] <;> omega
  ·obtain rfl : k = I.length := by omega
   have hz := HOK.out
   rw [List.drop_length] at hz
   have HZ := hide hz
   clear hz
   go_wp2
   go_ret2
   rw [HZ.out]
   exact ⟨rfl, hext⟩
set_option maxRecDepth 100000 in
set_option maxHeartbeats 1000000 in
theorem len_any (B b : Nat) (Rs : List RuleD) (I : List Int) (w : World) (hT : TabAt B w b Rs I) :
  Calls Tryz.prog 24 #[.pointer (some ⟨b, 0, none⟩)] w fun e w' => e = .returned (.int .i64 Rs.length) ∧ Ext w w' := by
 obtain ⟨vr, vi, c0, c1, hR, hi, hb, -⟩ := tab_cells hT
 obtain ⟨hlr, ar, cr, rfl⟩ := hR.shape
 clear hR hi hT c1
 go_enter Tryz.func24, Tryz.ntmps24
 go_wp2
 go_ret
 exact ⟨rfl, Below.refl _ _⟩
end Go.Proofs.YtopejlachgompaaGreatDoor

/- What Find tells, in plain Lean. -/
namespace Go.Proofs.YtopejlachgompaaGreatDoor
open Go.ChangeShapes Go.WideShapes Go.ChangeAt Go.RowKit Go.Lib Go.Shelf
def keyAt (R : List RuleD) (i : Nat) : Key := (R.map keyR).getD i (0, 0, 0)
/-- does the i-th rule come ahead of the j-th? -/
def aheadB (R : List RuleD) (i j : Nat) : Bool := decide (cmp3 (keyAt R i) (keyAt R j) < 0) || (!decide (cmp3 (keyAt R j) (keyAt R i) < 0) && decide (i < j))
def fitN (R : List RuleD) (p : List UInt8) (H : List HeadD) (i : Nat) : Bool := match R[i]? with | some r => fitR r p H | none => false
theorem fitR_core (r : RuleD) (p : List UInt8) (H : List HeadD) : fitR r.core p H = fitR r p H := rfl
theorem fitN_core {Rs R : List RuleD} (h : Rs.map RuleD.core = R.map RuleD.core) (p : List UInt8) (H : List HeadD) (i : Nat) : fitN Rs p H i = fitN R p H i := by
 have e : ∀ L : List RuleD, fitN L p H i = fitN (L.map RuleD.core) p H i := fun L => by
  unfold fitN
  rw [List.getElem?_map]
  cases L[i]? <;> rfl
 rw [e Rs, e R, h]
theorem fitAt_core {Rs R : List RuleD} (h : Rs.map RuleD.core = R.map RuleD.core) (p : List UInt8) (H : List HeadD) : fitAt Rs p H = fitAt R p H := funext fun i => fitN_core h p H i.toNat
theorem rowR_core {Rs R : List RuleD} (h : Rs.map RuleD.core = R.map RuleD.core) : rowR Rs = rowR R := by
 unfold rowR
 rw [keyR_map h, show Rs.length = R.length by simpa using congrArg List.length h]
theorem findI_core {Rs R : List RuleD} (h : Rs.map RuleD.core = R.map RuleD.core) (I : List Int) (p : List UInt8) (H : List HeadD) : findI Rs I p H = findI R I p H := by
 unfold findI
 rw [fitAt_core h]
/-- what Find tells of a table of rules -/
def found (R : List RuleD) (p : List UInt8) (H : List HeadD) : Option Int := findI R (rowR R) p H
theorem rowR_mem {R : List RuleD} {x : Int} (h : x ∈ rowR R) : 0 ≤ x ∧ x < R.length := by
 have := ((rowL_spec (cfK_swo (R.map keyR)) R.length).1.mem_iff).1 h
 exact upTo_mem.1 this
theorem found_spec (R : List RuleD) (p : List UInt8) (H : List HeadD) :
  (∃ i : Nat, found R p H = some (i : Int) ∧ i < R.length ∧ fitN R p H i = true ∧ ∀ j, j < R.length → fitN R p H j = true → j ≠ i → aheadB R i j = true) ∨ (found R p H = none ∧ ∀ j, j < R.length → fitN R p H j = false) := by
 obtain ⟨h1, h2⟩ := rowL_spec (cfK_swo (R.map keyR)) R.length
 rcases find_row h1 h2 (fitAt R p H) with ⟨i, hf, h0, hn, hp, ha⟩ | ⟨hf, hn⟩
 ·obtain ⟨i, rfl⟩ := Int.eq_ofNat_of_zero_le h0
  refine .inl ⟨i, hf, by omega, hp, fun j hj hpj hne => ?_⟩
  have := ha j (by omega) (by omega) hpj (by omega)
  unfold aheadB
  unfold lexLt at this
  simp only [Go.Proofs.ltOf, cfK, Int.toNat_natCast] at this
  have e : ((i : Int) < (j : Int)) ↔ i < j := by omega
  simp only [e] at this
  exact this
 ·exact .inr ⟨hf, fun j hj => hn j (by omega) (by omega)⟩
/-- one that fits, and stands ahead of all others that fit, is found -/
theorem found_eq {R : List RuleD} {p : List UInt8} {H : List HeadD} {i : Nat} (hi : i < R.length) (hf : fitN R p H i = true) (ha : ∀ j, j < R.length → fitN R p H j = true → j ≠ i → aheadB R j i = false) : found R p H = some (i : Int) := by
 rcases found_spec R p H with ⟨k, h1, h2, h3, h4⟩ | ⟨h1, h2⟩
 ·by_cases e : k = i
  ·rw [h1, e]
  ·have h5 := h4 i hi hf (fun h => e h.symm)
   rw [ha k h2 h3 e] at h5
   cases h5
 ·rw [h2 i hi] at hf
  cases hf
theorem found_none {R : List RuleD} {p : List UInt8} {H : List HeadD} : found R p H = none ↔ ∀ j, j < R.length → fitN R p H j = false := by
 rcases found_spec R p H with ⟨k, h1, h2, h3, h4⟩ | ⟨h1, h2⟩
 ·rw [h1]
  constructor
  ·intro h; cases h
  ·intro h; rw [h k h2] at h3; cases h3
 ·exact ⟨fun _ => h2, fun _ => h1⟩
/-- the document's Find: the first of the most special ones -/
theorem ahead_asymm (R : List RuleD) (i j : Nat) (h : aheadB R i j = true) : aheadB R j i = false := by
 unfold aheadB at *
 simp only [Bool.or_eq_true, Bool.and_eq_true, Bool.not_eq_true', decide_eq_true_eq, decide_eq_false_iff_not, Bool.or_eq_false_iff, Bool.and_eq_false_iff] at *
 have h1 := cmp3_neg (keyAt R i) (keyAt R j)
 have h2 := cmp3_neg (keyAt R j) (keyAt R i)
 rcases h with h | ⟨h, hij⟩
 ·have a1 := h1.1 h
  have n2 : ¬ cmp3 (keyAt R j) (keyAt R i) < 0 := fun h => by have := h2.1 h; omega
  refine ⟨n2, .inl ?_⟩
  simpa using h
 ·refine ⟨h, .inr ?_⟩
  simp
  omega
end Go.Proofs.YtopejlachgompaaGreatDoor
