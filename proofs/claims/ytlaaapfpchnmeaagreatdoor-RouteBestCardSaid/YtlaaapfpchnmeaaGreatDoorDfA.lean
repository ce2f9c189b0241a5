/- slices.IndexFunc and slices.DeleteFunc over numbers, at a predicate that may lay blocks. -/
import Derived.Lib.SlKept
import Derived.Lib.SliceRun
import Derived.Test.YtlaaapfpchnmeaaGreatDoorRtK
namespace Go.Proofs.YtlaaapfpchnmeaaGreatDoor
open Go.ChangeShapes Go.WideShapes Go.ChangeAt Go.RowKit Go.Lib Go.Shelf
/-- a predicate that tells pf of numbers below N, whatever has become of the row and whatever blocks have come -/
def PredOk (w0 : World) (blk N : Nat) (g : Nat) (cb : Array Value) (pf : Int → Bool) : Prop := (∀ args w, (callFunc g args).run Tryz.prog w = .ok (.enter g args) w) ∧ ∀ w', Keeps (fun b => b = blk) w0 w' → ∀ x : Int, 0 ≤ x → x < N →
  Calls Tryz.prog g (#[.int .i64 x] ++ cb) w' fun e w'' => e = .returned (.bool (pf x)) ∧ Ext w' w''
theorem PredOk.later {w0 w1 : World} {blk N g : Nat} {cb : Array Value} {pf : Int → Bool} (h : PredOk w0 blk N g cb pf) (k : Keeps (fun b => b = blk) w0 w1) : PredOk w1 blk N g cb pf := ⟨h.1, fun w' hk => h.2 w' (k.trans hk)⟩
set_option maxRecDepth 100000 in
set_option maxHeartbeats 8000000 in
theorem indexF_any (N blk cap n g : Nat) (cb : Array Value) (d : Array Int) (pf : Int → Bool) (w : World) (hdn : d.size = n) (hN : InR N d) (hP : PredOk w blk N g cb pf) (hR : RowI w blk cap d) (hn : n ≤ 1000) :
    Calls Tryz.prog 46 #[.slice (some ⟨blk, 0, none⟩) n cap, .func (.func g) #[] cb] w fun e w' => ∃ (k : Nat) (z : Int), e = .returned (.int .i64 z) ∧ (k = n → z = -1) ∧ (k < n → z = k) ∧ k ≤ n ∧ (∀ j, j < k → pf d[j]! = false) ∧ (k < n → pf d[k]! = true) ∧ Ext w w' := by
  have hen := hP.1
  have HP := hide hP.2
  have HR := hide hR
  have HN := hide hN
  have HD := hide hdn
  clear hP hR hN hdn
  go_enter Tryz.func46, Tryz.ntmps46
  go_wp2_with fail
  go_loopw [8] (fun v8 wr => ∃ k : Nat, k ≤ n ∧ v8 = .int .i64 k ∧ (∀ j, j < k → pf d[j]! = false) ∧ Ext w wr) (fun i _ => n - (intOf i).toNat)
  case atStart => exact ⟨0, by omega, rfl, fun j hj => by omega, Below.refl _ _⟩
  case round =>
    obtain ⟨k, hk, rfl, hall, hext⟩ := hrel
    have HALL := hide hall
    have HX := hide hext
    clear hall hext
    by_cases hlt : k < n
    · have hkd : k < d.size := by have := HD.out; omega
      have hltz : (k : Int) < n := by omega
      have hc := (HR.out.ext HX.out).cell k hkd
      have hin := HN.out k hkd
      have hcall := HP.out wr (Keeps.of_ext HX.out) d[k]! hin.1 hin.2
      have hsn : pf d[k]! = false → ∀ j, j < k + 1 → pf d[j]! = false := fun h j hj => by
        rcases Nat.lt_succ_iff_lt_or_eq.1 hj with hj | rfl
        · exact HALL.out j hj
        · exact h
      have hht : pf d[k]! = true → (k < n → pf d[k]! = true) := fun h _ => h
      obtain ⟨q, hq⟩ : ∃ q, pf d[k]! = q := ⟨_, rfl⟩
      rw [hq] at hcall hsn
      have HQ := hide hq
      have HSN := hide hsn
      generalize hdk : d[k]! = x at hc hcall
      have HCALL := hide hcall
      clear hcall hsn hht hin hq hdk
      cases q with
      | false =>
        go_wp2_with (go_at_fn g; refine HCALL.out.mono ?_; rintro e w7 ⟨rfl, E7⟩)
        go_roundw
        case rel => exact ⟨k + 1, hlt, by go_num, HSN.out (by first | rfl | trivial), HX.out.trans E7⟩
        case measure => simp [intOf] <;> omega
      | true =>
        go_wp2_with (go_at_fn g; refine HCALL.out.mono ?_; rintro e w7 ⟨rfl, E7⟩)
        go_ret
        exact ⟨k, k, rfl, fun h => by omega, fun _ => rfl, by omega, HALL.out, fun _ => HQ.out, HX.out.trans E7⟩
    · obtain rfl : k = n := by omega
      go_wp2
      go_ret
      exact ⟨k, -1, rfl, fun _ => rfl, fun h => by omega, Nat.le_refl _, HALL.out, fun h => by omega, HX.out⟩
theorem rowI_lay {blk cap : Nat} : ∀ (zs : List Int) (k : Nat) (w : World) (d : Array Int), RowI w blk cap d → RowI (w.setCells blk k (zs.map (Value.int .i64))) blk cap (Go.Lib.lay d k zs)
  | [], _, _, _, h => h
  | _ :: zs, k, _, _, h => rowI_lay zs (k + 1) _ _ (h.set k _)
/-- a row of numbers in a block of its own, whatever else there is -/
theorem keeps_cells (blk : Nat) (vs : List Value) (k : Nat) (w : World) : Keeps (fun b => b = blk) w (w.setCells blk k vs) := keeps_setCells blk vs k w
set_option maxRecDepth 100000 in
set_option maxHeartbeats 8000000 in
theorem deleteF_any (N blk cap n g : Nat) (cb : Array Value) (d : Array Int) (pf : Int → Bool) (w : World) (hdn : d.size = n) (hN : InR N d) (hP : PredOk w blk N g cb pf) (hR : RowI w blk cap d) (hn : n ≤ 1000) (hcap : cap ≤ 1000000) :
    Calls Tryz.prog 27 #[.slice (some ⟨blk, 0, none⟩) n cap, .func (.func g) #[] cb] w fun e w' => ∃ d' : Array Int, e = .returned (.slice (some ⟨blk, 0, none⟩) (d.toList.filter fun x => !pf x).length cap) ∧ RowI w' blk cap d' ∧ d'.size = n ∧ d'.toList.take (d.toList.filter fun x => !pf x).length = (d.toList.filter fun x => !pf x) ∧ Keeps (fun b => b = blk) w w' := by
  have hidx := indexF_any N blk cap n g cb d pf w hdn hN hP hR hn
  have hen := hP.1
  have hnc : n ≤ cap := by obtain ⟨_, _, h2, h3, _⟩ := hR; omega
  have HP := hide hP
  have HR := hide hR
  have HN := hide hN
  have HD := hide hdn
  have HIDX := hide hidx
  obtain ⟨kp, HK⟩ : ∃ kp : Nat → Bool, Hid (kp = fun j => !pf d[j]!) := ⟨_, rfl⟩
  have hfil : (d.toList.filter fun x => !pf x) = Go.Lib.keptUpTo kp d n := by rw [HK.out, ← HD.out]; exact (Go.Lib.keptUpTo_filter (fun x => !pf x) d).symm
  rw [hfil]
  clear hfil hP hR hN hdn hidx
  go_enter Tryz.func27, Tryz.ntmps27
  go_wp2_with fail
  refine HIDX.out.mono ?_
  rintro e w1 ⟨k0, z, rfl, hz1, hz2, hk0, hall, hht, E1⟩
  have HE1 := hide E1
  clear E1 HIDX
  by_cases hkn : k0 = n
  · obtain rfl := hz1 hkn
    subst hkn
    have hkeep : ∀ j, j < k0 → kp j = true := fun j hj => by rw [HK.out]; show (!pf d[j]!) = true; rw [hall j hj]; rfl
    have e3 : Go.Lib.keptUpTo kp d k0 = d.toList := by rw [Go.Lib.keptUpTo_all kp d _ hkeep, ← HD.out, Go.Lib.range_map_get]
    have hdl : d.toList.length = k0 := by simpa using HD.out
    have HRR := hide (HR.out.ext HE1.out)
    have HE3 := hide e3
    have HDL := hide hdl
    clear e3 hdl hkeep hall hht hz1 hz2
    go_wp2
    go_ret
    rw [HE3.out, HDL.out]
    exact ⟨d, rfl, HRR.out, HD.out, List.take_of_length_le (by rw [HDL.out]; exact Nat.le_refl _), Keeps.of_ext HE1.out⟩
  · have hk0n : k0 < n := by omega
    obtain rfl := hz2 hk0n
    have hkeep : ∀ j, j < k0 → kp j = true := fun j hj => by rw [HK.out]; show (!pf d[j]!) = true; rw [hall j hj]; rfl
    have hdrop : kp k0 = false := by rw [HK.out]; show (!pf d[k0]!) = false; rw [hht hk0n]; rfl
    have HST := hide (Go.Lib.KeptInv.start (d := d) hkeep hdrop)
    have hne1 : ((k0 : Int) == -1) = false := beq_eq_false_iff_ne.2 (by omega)
    have hne2 : ¬ (k0 : Int) = -1 := by omega
    clear hkeep hdrop hall hht hkn hz1 hz2
    go_wp2_with fail
    go_loopw [5, 6, 7] (fun v5 v6 v7 wr => ∃ (i j : Nat) (dk : Array Int), v5 = .int .i64 i ∧ v6 = .int .i64 j ∧ j ≤ n ∧ i < j ∧ Hid (Go.Lib.KeptInv kp d j i dk) ∧ RowI wr blk cap dk ∧ Keeps (fun b => b = blk) w wr) (fun _ j _ _ => n - (intOf j).toNat)
    case atStart => exact ⟨k0, k0 + 1, d, rfl, by go_num, by omega, by omega, HST.out, HR.out.ext HE1.out, Keeps.of_ext HE1.out⟩
    case round =>
      obtain ⟨i, j, dk, rfl, rfl, hj, hij, hI, hrow, hkp⟩ := hrel
      have HI := hide hI.out
      have HROW := hide hrow
      have HKP := hide hkp
      have hdks : dk.size = n := by rw [HI.out.size]; exact HD.out
      clear hI hrow hkp HST
      by_cases hlt : j < n
      · have hltz : (j : Int) < n := by omega
        have hjd : j < d.size := by have := HD.out; omega
        have hcj := HROW.out.cell j (by omega)
        rw [HI.out.high j (by omega)] at hcj
        have hin := HN.out j hjd
        have hcall := HP.out.2 wr HKP.out d[j]! hin.1 hin.2
        have hkj : kp j = !pf d[j]! := by rw [HK.out]
        have hset := fun (h : kp j = true) => HI.out.keep hjd h
        have hskip := fun (h : kp j = false) => HI.out.skip h
        obtain ⟨q, hq⟩ : ∃ q, pf d[j]! = q := ⟨_, rfl⟩
        rw [hq] at hcall hkj
        generalize hu : d[j]! = u at hcj hcall hset
        have HCALL := hide hcall
        have HSET := hide hset
        have HSKIP := hide hskip
        have HKJ := hide hkj
        clear hcall hset hskip hkj hin hq hu
        cases q with
        | false =>
          have hI2 := HSET.out (by rw [HKJ.out]; rfl)
          have HI2 := hide hI2
          clear hI2
          have hid : i < dk.size := by omega
          have hst := fun w' (E : Ext wr w') => (HROW.out.ext E).cell i hid
          have hfz := fun w' (E : Ext wr w') => (HROW.out.ext E).frozen i
          have HSTC := hide hst
          have HFZ := hide hfz
          clear hst hfz
          go_wp2_with (go_at_fn g; refine HCALL.out.mono ?_; rintro e w7 ⟨rfl, E7⟩; have hst7 := HSTC.out w7 E7; have hfz7 := HFZ.out w7 E7)
          go_roundw
          case rel => exact ⟨i + 1, j + 1, dk.setIfInBounds i u, by go_num, by go_num, by omega, by omega, HI2.out, (HROW.out.ext E7).set i u, (HKP.out.trans (Keeps.of_ext E7)).trans (Keeps.of_set _ blk i _ rfl)⟩
          case measure => simp [intOf] <;> omega
        | true =>
          have hI2 := HSKIP.out (by rw [HKJ.out]; rfl)
          have HI2 := hide hI2
          clear hI2
          go_wp2_with (go_at_fn g; refine HCALL.out.mono ?_; rintro e w7 ⟨rfl, E7⟩)
          go_roundw
          case rel => exact ⟨i, j + 1, dk, rfl, by go_num, by omega, by omega, HI2.out, HROW.out.ext E7, HKP.out.trans (Keeps.of_ext E7)⟩
          case measure => simp [intOf] <;> omega
      · have hcl : ∀ ty, (Builtin.clear_ #[22] ty #[.slice (some ⟨blk, i, none⟩) (n - i) (cap - i)]).run Tryz.prog wr = .ok (.tuple #[]) (wr.setCells blk i (List.replicate (n - i) (.int .i64 0))) :=
          fun ty => run_clear_slice wr 22 3 ty (.int .i64 0) (by kernel_rfl) (fun w => by rfl) rfl rfl blk i (n - i) (cap - i) (by omega) (fun q hq => by rw [HROW.out.cell (i + q) (by omega)]; rfl) (fun q hq => HROW.out.frozen (i + q))
        have hjn : j = n := by omega
        have hincz : (i : Int) ≤ n := by omega
        have hcapz : (n : Int) ≤ cap := by omega
        have hicap : (i : Int) ≤ cap := by omega
        have hnic : ¬ i = cap := by omega
        have hin : i ≤ n := by omega
        have hic : i ≤ cap := by omega
        have hi2 : Go.Lib.KeptInv kp d d.size i dk := by have := HI.out; rw [hjn, ← HD.out] at this; exact this
        have hI2 := hide hi2
        clear hi2
        have hlen : (Go.Lib.keptUpTo kp d n).length = i := by rw [← HD.out]; exact hI2.out.len
        have HLEN := hide hlen
        clear hlen
        have hdone := hI2.out.done 0
        have HDN := hide hdone
        clear hdone
        have hrl := rowI_lay (List.replicate (n - i) 0) i wr dk HROW.out
        have HRL := hide hrl
        clear hrl
        go_wp2
        go_ret
        rw [HLEN.out]
        refine ⟨Go.Lib.lay dk i (List.replicate (n - i) 0), rfl, ?_, ?_, ?_, ?_⟩
        · have h := HRL.out
          rw [List.map_replicate] at h
          exact h
        · have h := HDN.out; rw [HD.out] at h; rw [h]; simp [HLEN.out]; omega
        · have h := HDN.out
          rw [HD.out] at h
          rw [h]
          show (Go.Lib.keptUpTo kp d n ++ List.replicate (n - i) 0).take i = _
          rw [List.take_append_of_le_length (by rw [HLEN.out]; exact Nat.le_refl _), List.take_of_length_le (by rw [HLEN.out]; exact Nat.le_refl _)]
        · exact HKP.out.trans (keeps_cells blk _ i _)
end Go.Proofs.YtlaaapfpchnmeaaGreatDoor
