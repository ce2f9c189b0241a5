/- law08.RouteRow from its 9-th statement on (printed by wip/gen_row.py). -/
import Derived.Test.YtlaaapfpchnmeaaDoorLwRd
namespace Go.Proofs.YtlaaapfpchnmeaaDoor
open Go.ChangeShapes Go.WideShapes Go.ChangeAt Go.RowKit Go.Lib Go.Shelf
theorem found_lt (R : List RuleD) (p : List UInt8) (D : List HeadD) : ∃ F : Option Nat, found R p D = F.map (fun k : Nat => (k : Int)) ∧ ∀ a, F = some a → a < R.length := by
  rcases found_spec R p D with ⟨i, h1, h2, -⟩ | ⟨h1, -⟩
  · exact ⟨some i, h1, fun a h => by cases h; exact h2⟩
  · exact ⟨none, h1, fun a h => by cases h⟩
set_option maxRecDepth 100000 in
set_option maxHeartbeats 16000000 in
theorem row_tail9 (w W : World) (R : List RuleD) (D : List HeadD) (s : ByteArray) (out at1 : Int) (is1 al : Bool) (x : Nat → Value) (a10 a11 a15 : Option Addr) (c10 c11 c15 : Nat) (F : Option Nat)
    (e3 : x 3 = .int .i64 out) (e10 : x 10 = .slice a10 R.length c10) (e11 : x 11 = .slice a11 D.length c11) (e12 : x 12 = .string s) (e13 : x 13 = .int .i64 at1) (e14 : x 14 = .bool is1) (e15 : x 15 = .slice a15 R.reverse.length c15) (e16 : x 16 = .bool al)
    (hat : at1 = (F.getD 0 : Nat)) (his : is1 = F.isSome) (hF : found R (bl s) D = F.map (fun k : Nat => (k : Int)))
    (hal : al = false → ∀ i k, k < i → i < R.length → alikeB R i k = false)
    (hR : Rules W (.slice a10 R.length c10) R) (hB : Rules W (.slice a15 R.reverse.length c15) R.reverse) (hok : ∀ r ∈ R, RuleOk W r) (hrt : ∀ r ∈ R, Right r) (hl5 : R.length ≤ 5) (hD : Heads W (.slice a11 D.length c11) D) (hsz : SzB s) (hout : I64 out) (hm : MaxV W) (hE : Ext w W) :
    Code.wp Tryd.prog (rowTail 9) (bodyPost Tryd.prog Tryd.f4 (RowP w)) ⟨frameOf 190 x, []⟩ W := by
  have hmq : ∀ r ∈ R.reverse, RuleOk W r ∧ Right r := fun r hr => ⟨hok r (List.mem_reverse.1 hr), hrt r (List.mem_reverse.1 hr)⟩
  have hql : R.reverse.length ≤ 5 := by rw [List.length_reverse]; exact hl5
  have hbs := back_some R (bl s) D
  have hba : ∀ a, F = some a → al = false → found R.reverse (bl s) D = some ((R.length - 1 - a : Nat) : Int) := fun a ha hl => back_at (by rw [hF, ha]; rfl) (hal hl)
  obtain ⟨Q, hQ⟩ : ∃ Q, R.reverse = Q := ⟨_, rfl⟩
  rw [hQ] at e15 hB hmq hql hbs hba
  conv => arg 2; whnf
  rw [frame190]
  simp only [e3, e10, e11, e12, e13, e14, e15, e16]
  clear e3 e10 e11 e12 e13 e14 e15 e16
  have hne : nerr Q 0 = 0 := nerr_right (fun r hr => (hmq r hr).2) (by omega) 0 (by omega)
  have hnew := hnew_any Q 0 _ W hB (fun r hr => ⟨(hmq r hr).1, (hmq r hr).2.1⟩) hm
  simp only [hne] at hnew
  rw [hF] at hbs
  obtain ⟨G, hG, hGl⟩ := found_lt Q (bl s) D
  have hGF : G.isSome = F.isSome := by
    have := hbs
    rw [hG] at this
    simpa using this
  have hGa : ∀ a, F = some a → al = false → G = some (R.length - 1 - a) := fun a ha hl => by
    have := hba a ha hl
    rw [hG] at this
    cases G with
    | none => cases this
    | some q =>
      have e : (q : Int) = ((R.length - 1 - a : Nat) : Int) := Option.some.inj this
      congr 1
      omega
  have hFl : ∀ a, F = some a → a < R.length := fun a ha => by rw [ha] at hF; exact find_lt hF
  have HNEW := hide hnew
  have HG := hide hG
  have HGF := hide hGF
  have HGA := hide hGa
  have HFL := hide hFl
  have HGL := hide hGl
  have HM := hide hm
  have HE := hide hE
  have HD := hide hD
  have HSZ := hide hsz
  have HRT := hide hrt
  have HF := hide hF
  have HL5 := hide hl5
  have HAT := hide hat
  have HIS := hide his
  have HR := hide hR
  have HOK := hide hok
  have HOUT := hide hout
  clear hnew hG hGF hGa hFl hm hE hD hsz hrt hF hat his hR hok hout hB hne hbs hba hal hGl hmq hql hQ
  go_wp2_with fail
  refine HNEW.out.mono ?_
  rintro e w8 ⟨E8, ⟨h, _⟩ | ⟨_, b2, Rs2, rfl, hT, hRs⟩⟩
  · exact absurd rfl h
  have hfc : findI Rs2 (rowR Q) (bl s) D = G.map (fun k : Nat => (k : Int)) := by
    rw [← HG.out, ← found_core hRs, ← rowR_core hRs]
    rfl
  have hfind := find_any _ b2 Rs2 (rowR Q) s D (.slice a11 D.length c11) w8 hT (fun x hx => by
    rw [← rowR_core hRs] at hx
    exact rowR_mem hx) HSZ.out (HM.out.ext E8) (HD.out.ext E8)
  rw [hfc] at hfind
  have HFI := hide hfind
  have HE8 := hide E8
  clear hfind hfc hT hRs E8 HNEW HG
  go_wp2_with fail
  refine HFI.out.mono ?_
  rintro e w9 ⟨rfl, E9⟩
  have HE9 := hide (HE8.out.trans E9)
  clear E9 HFI HE8
  go_upto_region 21 with (fail)
  go_cut [118] from 30 to 189 (fun s118 w' => s118 = .bool false ∧ w' = w9)
  case first =>
    have h1 := HAT.out
    have h2 := HIS.out
    have h3 := HGF.out
    have h4 := HGA.out
    have h5 := HFL.out
    have h6 := HGL.out
    have hl5' := HL5.out
    cases F with
    | none =>
      have h7 : is1 = false := h2
      subst h7
      cases G with
      | some q => cases h3
      | none =>
        clear h1 h2 h3 h4 h5 h6
        cases al <;>
        · go_wp2
          go_meet
          case rel => exact ⟨rfl, rfl⟩
    | some a =>
      have h7 : is1 = true := h2
      subst h7
      have h8 : at1 = (a : Int) := h1
      subst h8
      have h9 := h5 a rfl
      cases G with
      | none => cases h3
      | some q =>
        cases al with
        | true =>
          clear h1 h2 h3 h4 h5 h6
          go_wp2
          go_meet
          case rel => exact ⟨rfl, rfl⟩
        | false =>
          have hq := Option.some.inj (h4 a rfl rfl)
          have hqz : (q : Int) = R.length - 1 - a := by omega
          have hqb : ((q : Int) != (R.length : Int) - 1 - (a : Int)) = false := by rw [hqz]; simp
          clear h1 h2 h3 h4 h5 h6 hq hqz
          go_wp2
          go_meet
          case rel => exact ⟨rfl, rfl⟩
  case rest =>
    obtain ⟨rfl, rfl⟩ := hcut
    go_upto_if 121 with (fail)
    go_cut [] from 30 to 189 (fun w' => w' = wc ∧ 0 < R.length)
    case first =>
      by_cases h0 : 0 < R.length
      · have h0z : ¬ (R.length : Int) = 0 := by omega
        have h0b : ((R.length : Int) == 0) = false := by rw [beq_eq_false_iff_ne]; omega
        go_wp2
        go_meet
        case rel => exact ⟨rfl, h0⟩
      · have h0z : (R.length : Int) = 0 := by omega
        have h0b : ((R.length : Int) == 0) = true := by rw [beq_iff_eq]; omega
        have hFn : F = none := by
          cases hF0 : F with
          | none => rfl
          | some a => have := HFL.out a hF0; omega
        have his2 : is1 = false := by rw [HIS.out, hFn]; rfl
        subst his2
        have hlv := lives_any wc (HM.out.ext HE9.out)
        have HLV := hide hlv
        clear hlv
        go_wp2_with fail
        refine HLV.out.mono ?_
        rintro e w10 ⟨rfl, E10⟩
        go_wp2
        go_ret
        exact ⟨rfl, HE.out.trans (HE9.out.trans E10)⟩
    case rest =>
      obtain ⟨rfl, hl0⟩ := hcut
      (try simp only [Exit.inBlock, Exit.then])
      apply_assumption
      exact of_frame190 _ rfl (row_tail14 w _ R D s out at1 is1 _ a10 a11 c10 c11 F rfl rfl rfl rfl rfl rfl HAT.out HIS.out HF.out (HR.out.ext HE9.out) (fun r hr => (HOK.out r hr).ext HE9.out) HRT.out HL5.out hl0 (HD.out.ext HE9.out) HSZ.out HOUT.out (HM.out.ext HE9.out) (HE.out.trans HE9.out))
end Go.Proofs.YtlaaapfpchnmeaaDoor
