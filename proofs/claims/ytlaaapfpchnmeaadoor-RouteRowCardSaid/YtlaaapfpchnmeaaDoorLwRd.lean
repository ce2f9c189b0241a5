/- law08.RouteRow from its 14-th statement on (printed by wip/gen_row.py). -/
import Derived.Deep.CutRange
import Derived.Test.YtlaaapfpchnmeaaDoorLwQ
import Derived.Test.YtlaaapfpchnmeaaDoorGnJ
namespace Go.Proofs.YtlaaapfpchnmeaaDoor
open Go.ChangeShapes Go.WideShapes Go.ChangeAt Go.RowKit Go.Lib Go.Shelf
noncomputable def rowTail (n : Nat) : Code := rightOf n ((Tryd.f4.body).getD .skip)
def RowP (w : World) (e : Ending) (w' : World) : Prop := e = .returned (.bool true) ∧ Ext w w'
set_option maxRecDepth 100000 in
theorem frame190 (x : Nat → Value) : frameOf 190 x = #[x 0, x 1, x 2, x 3, x 4, x 5, x 6, x 7, x 8, x 9, x 10, x 11, x 12, x 13, x 14, x 15, x 16, x 17, x 18, x 19, x 20, x 21, x 22, x 23, x 24, x 25, x 26, x 27, x 28, x 29, x 30, x 31, x 32, x 33, x 34, x 35, x 36, x 37, x 38, x 39, x 40, x 41, x 42, x 43, x 44, x 45, x 46, x 47, x 48, x 49, x 50, x 51, x 52, x 53, x 54, x 55, x 56, x 57, x 58, x 59, x 60, x 61, x 62, x 63, x 64, x 65, x 66, x 67, x 68, x 69, x 70, x 71, x 72, x 73, x 74, x 75, x 76, x 77, x 78, x 79, x 80, x 81, x 82, x 83, x 84, x 85, x 86, x 87, x 88, x 89, x 90, x 91, x 92, x 93, x 94, x 95, x 96, x 97, x 98, x 99, x 100, x 101, x 102, x 103, x 104, x 105, x 106, x 107, x 108, x 109, x 110, x 111, x 112, x 113, x 114, x 115, x 116, x 117, x 118, x 119, x 120, x 121, x 122, x 123, x 124, x 125, x 126, x 127, x 128, x 129, x 130, x 131, x 132, x 133, x 134, x 135, x 136, x 137, x 138, x 139, x 140, x 141, x 142, x 143, x 144, x 145, x 146, x 147, x 148, x 149, x 150, x 151, x 152, x 153, x 154, x 155, x 156, x 157, x 158, x 159, x 160, x 161, x 162, x 163, x 164, x 165, x 166, x 167, x 168, x 169, x 170, x 171, x 172, x 173, x 174, x 175, x 176, x 177, x 178, x 179, x 180, x 181, x 182, x 183, x 184, x 185, x 186, x 187, x 188, x 189] := rfl
theorem of_frame190 {P : Program} {C : Code} {Q : Exit → Act → World → Prop} {W : World} (A : Array Value) (hA : A.size = 190) (h : Code.wp P C Q ⟨frameOf 190 (fun t => A.getD t undef), []⟩ W) : Code.wp P C Q ⟨A, []⟩ W := by
  have e := frameOf_self ⟨A, []⟩
  simp only [hA] at e
  rw [e]
  exact h
/-- the rules but the k-th -/
def fewR (R : List RuleD) (k : Nat) : List RuleD := R.take k ++ R.drop (k + 1)
def PhF (W : World) (R : List RuleD) (k : Nat) : List Value → World → Prop
  | [], w' => Ext W w'
  | [v0], w' => w'.ownsRow W.heap.size 38 19 v0 0 [] ∧ Ext W w'
  | [_, v1], w' => w'.ownsRow W.heap.size 38 19 v1 (R.take k).length ((R.take k).flatMap encR) ∧ Ext W w'
  | [_, _, v2], w' => w'.ownsRow W.heap.size 38 19 v2 (R.take k ++ R.drop (k + 1)).length ((R.take k ++ R.drop (k + 1)).flatMap encR) ∧ Ext W w'
  | [_, _, v2, v3], w' => v3 = v2 ∧ w'.ownsRow W.heap.size 38 19 v2 (R.take k ++ R.drop (k + 1)).length ((R.take k ++ R.drop (k + 1)).flatMap encR) ∧ Ext W w'
  | _, _ => False
theorem grown_ext {W w w' : World} {size n : Nat} {e : TypeId} {v : Value} {xs : List Value} (hg : w.grownBy w' v.ownBlock) (ho : w.ownsRow W.heap.size e size v n xs) (h0 : W.heap.size ≤ w.heap.size) : Below W.heap.size w w' :=
  (Keeps.of_grown (X := fun q => v.ownBlock = some q) hg (fun _ h => h)).below h0 (fun k hk => (ho.lt k hk).1)
set_option maxRecDepth 100000 in
set_option maxHeartbeats 16000000 in
theorem row_tail14 (w W : World) (R : List RuleD) (D : List HeadD) (s : ByteArray) (out at1 : Int) (is1 : Bool) (x : Nat → Value) (a10 a11 : Option Addr) (c10 c11 : Nat) (F : Option Nat)
    (e3 : x 3 = .int .i64 out) (e10 : x 10 = .slice a10 R.length c10) (e11 : x 11 = .slice a11 D.length c11) (e12 : x 12 = .string s) (e13 : x 13 = .int .i64 at1) (e14 : x 14 = .bool is1)
    (hat : at1 = (F.getD 0 : Nat)) (his : is1 = F.isSome) (hF : found R (bl s) D = F.map (fun k : Nat => (k : Int)))
    (hR : Rules W (.slice a10 R.length c10) R) (hok : ∀ r ∈ R, RuleOk W r) (hrt : ∀ r ∈ R, Right r) (hl5 : R.length ≤ 5) (hl0 : 0 < R.length) (hD : Heads W (.slice a11 D.length c11) D) (hsz : SzB s) (hout : I64 out) (hm : MaxV W) (hE : Ext w W) :
    Code.wp Tryd.prog (rowTail 14) (bodyPost Tryd.prog Tryd.f4 (RowP w)) ⟨frameOf 190 x, []⟩ W := by
  conv => arg 2; whnf
  rw [frame190]
  simp only [e3, e10, e11, e12, e13, e14]
  clear e3 e10 e11 e12 e13 e14
  obtain ⟨ir, zr, hir0, hir1, hir2, hir3, hir4⟩ := info_partsR
  have hab := around_bd out (R.length : Int) (by omega)
  have hal := around_any out R.length W hout (by omega)
  obtain ⟨k, hk⟩ : ∃ k : Nat, around out R.length = k := Int.eq_ofNat_of_zero_le hab.1
  rw [hk] at hal hab
  have hkl : k < R.length := by omega
  have HAK := hide hal
  have HLV := hide (fun X (hX : Ext W X) => lives_any X (hm.ext hX))
  have HM := hide hm
  have HE := hide hE
  have HD := hide hD
  have HSZ := hide hsz
  have HRT := hide hrt
  have HF := hide hF
  have HL5 := hide hl5
  have HAT := hide hat
  have HIS := hide his
  have hfl : ∀ a, F = some a → a < R.length := fun a h => by
    rw [h] at hF
    exact find_lt hF
  have HFL := hide hfl
  have htk : Rules W (.slice a10 k c10) (R.take k) := hR.take k (by omega)
  have HTK := hide htk
  have HOKT := hide (fun q (hq : q ∈ R.take k) => hok q (List.mem_of_mem_take hq))
  have HOKD := hide (fun q (hq : q ∈ R.drop (k + 1)) => hok q (List.mem_of_mem_drop hq))
  have HR := hide hR
  clear hal hk hm hE hD hsz hrt hF hat his hfl hout hok htk
  go_wp2_with fail
  refine HAK.out.mono ?_
  rintro e w1 ⟨rfl, rfl⟩
  go_upto_region 26 with (fail)
  go_cut [136] from 30 to 189 (fun s136 w' => s136 = .bool (decide (F = some k)) ∧ w' = W)
  case first =>
    have h1 := HAT.out
    have h2 := HIS.out
    cases F with
    | none =>
      have h3 : is1 = false := h2
      subst h3
      clear h1 h2
      have hd : decide ((none : Option Nat) = some k) = false := by simp
      go_wp2
      go_meet
      case rel => exact ⟨by rw [hd], rfl⟩
    | some q =>
      have h3 : is1 = true := h2
      subst h3
      have h4 : at1 = (q : Int) := h1
      subst h4
      clear h1 h2
      by_cases hqk : q = k
      · subst hqk
        have hd : decide ((some q : Option Nat) = some q) = true := by simp
        have hbb : ((q : Int) == (q : Int)) = true := by simp
        go_wp2
        go_meet
        case rel => exact ⟨by rw [hd], rfl⟩
      · have hd : decide ((some q : Option Nat) = some k) = false := by simp [hqk]
        have hbb : ((k : Int) == (q : Int)) = false := by simp; omega
        go_wp2
        go_meet
        case rel => exact ⟨by rw [hd], rfl⟩
  case rest =>
    obtain ⟨rfl, rfl⟩ := hcut
    cases hdec : decide (F = some k) with
    | true =>
      go_wp2_with fail
      refine (HLV.out _ (Below.refl _ _)).mono ?_
      rintro e w2 ⟨rfl, E2⟩
      go_wp2
      go_ret
      exact ⟨rfl, HE.out.trans E2⟩
    | false =>
      have hnk : F ≠ some k := of_decide_eq_false hdec
      have HNK := hide hnk
      clear hdec hnk
      have hkz : (k : Int) < R.length := by omega
      have hcap := (HR.out.cap).2.1
      have HCP := hide hcap
      obtain ⟨a146, ha146⟩ : ∃ a, (if c10 = k + 1 then a10 else Option.map (fun x => x.add ((k + 1) * 19)) a10) = a := ⟨_, rfl⟩
      have hdk : Rules wc (.slice a146 (R.length - (k + 1)) (c10 - (k + 1))) (R.drop (k + 1)) := by
        have hll : (R.drop (k + 1)).length = R.length - (k + 1) := by simp
        by_cases hck : c10 = k + 1
        · have hnil : R.drop (k + 1) = [] := List.drop_eq_nil_of_le (by omega)
          have h0 : R.length - (k + 1) = 0 := by omega
          rw [hnil, h0]
          exact ⟨by simp, _, _, rfl, by simp; have := HR.out.cap.2.2; omega, fun i x hi => by simp at hi⟩
        · obtain ⟨b, off, rfl, -⟩ := HR.out.some (by omega)
          rw [if_neg hck] at ha146
          subst ha146
          have := HR.out.drop (k + 1) (by omega)
          simp only [Option.map_some]
          rw [add_cell']
          exact this
      have HDK := hide hdk
      have HA6 := hide ha146
      clear hdk ha146 hcap hR
      go_upto_region 28 with (fail)
      refine wp_region_ph 190 [0, 4, 9, 10] (PhF wc R k) (fun t v => match t with | 3 => v = .int .i64 out | 10 => v = .slice a10 R.length c10 | 11 => v = .slice a11 D.length c11 | 12 => v = .string s | 13 => v = .int .i64 at1 | 14 => v = .bool is1 | 23 => v = .int .i64 k | 139 => v = .slice a10 R.length c10 | 140 => v = .int .i64 k | 141 => v = .slice a10 k c10 | 143 => v = .slice a10 R.length c10 | 144 => v = .int .i64 k | 145 => v = .int .i64 (k + 1) | 146 => v = .slice a146 (R.length - (k + 1)) (c10 - (k + 1)) | _ => True) (by kernel_rfl) rfl (by kernel_rfl) (by kernel_rfl) (by kernel_rfl) ?_ ?_ ?_ ?_ ?_
      · exact (Below.refl _ _).drew
      · intro t ht hno
        split <;> first | exact True.intro | exact rfl | exact absurd (hno.symm.trans (by kernel_rfl) : true = false) (by decide)
      · intro i o ho hmi vs X w' hpk hph hX hI K hK
        have hin : i < 11 := (Array.getElem?_eq_some_iff.1 ho).1
        have hi : i = 0 ∨ i = 1 ∨ i = 2 ∨ i = 3 ∨ i = 4 ∨ i = 5 ∨ i = 6 ∨ i = 7 ∨ i = 8 ∨ i = 9 ∨ i = 10 := by omega
        rcases hi with rfl | rfl | rfl | rfl | rfl | rfl | rfl | rfl | rfl | rfl | rfl
        · exact absurd hmi (by decide)
        · obtain rfl := Option.some.inj ho
          have e10 : X 10 = .slice a10 R.length c10 := hI 10 (by kernel_rfl)
          unfold wpOp
          simp only [ho]
          rw [if_pos (by rfl)]
          left
          rw [frame190]
          go_simp
          refine metK (hK.out (.slice a10 R.length c10) (fun d hd => by cases hd; exact rfl)) ?_
          simp [frame190, Act.put, *]
        · obtain rfl := Option.some.inj ho
          have e23 : X 23 = .int .i64 k := hI 23 (by kernel_rfl)
          unfold wpOp
          simp only [ho]
          rw [if_pos (by rfl)]
          left
          rw [frame190]
          go_simp
          refine metK (hK.out (.int .i64 k) (fun d hd => by cases hd; exact rfl)) ?_
          simp [frame190, Act.put, *]
        · obtain rfl := Option.some.inj ho
          have e139 : X 139 = .slice a10 R.length c10 := hI 139 (by kernel_rfl)
          have e140 : X 140 = .int .i64 k := hI 140 (by kernel_rfl)
          have hkc : k ≤ c10 := by have := HCP.out; omega
          unfold wpOp
          simp only [ho]
          rw [if_pos (by rfl)]
          left
          rw [frame190]
          go_simp
          refine metK (hK.out (.slice a10 k c10) (fun d hd => by cases hd; exact rfl)) ?_
          simp [frame190, Act.put, *]
        · exact absurd hmi (by decide)
        · obtain rfl := Option.some.inj ho
          have e10 : X 10 = .slice a10 R.length c10 := hI 10 (by kernel_rfl)
          unfold wpOp
          simp only [ho]
          rw [if_pos (by rfl)]
          left
          rw [frame190]
          go_simp
          refine metK (hK.out (.slice a10 R.length c10) (fun d hd => by cases hd; exact rfl)) ?_
          simp [frame190, Act.put, *]
        · obtain rfl := Option.some.inj ho
          have e23 : X 23 = .int .i64 k := hI 23 (by kernel_rfl)
          unfold wpOp
          simp only [ho]
          rw [if_pos (by rfl)]
          left
          rw [frame190]
          go_simp
          refine metK (hK.out (.int .i64 k) (fun d hd => by cases hd; exact rfl)) ?_
          simp [frame190, Act.put, *]
        · obtain rfl := Option.some.inj ho
          have e144 : X 144 = .int .i64 k := hI 144 (by kernel_rfl)
          have wz : IntKind.i64.wrap ((k : Int) + 1) = (k : Int) + 1 := IntWalk.i64_in _ (by omega)
          unfold wpOp
          simp only [ho]
          rw [if_pos (by rfl)]
          left
          rw [frame190]
          go_simp
          refine metK (hK.out (.int .i64 (k + 1)) (fun d hd => by cases hd; exact rfl)) ?_
          simp [frame190, Act.put, *]
        · obtain rfl := Option.some.inj ho
          have e143 : X 143 = .slice a10 R.length c10 := hI 143 (by kernel_rfl)
          have e145 : X 145 = .int .i64 (k + 1) := hI 145 (by kernel_rfl)
          have h8a : 0 ≤ (k : Int) + 1 := by omega
          have h8b : (k : Int) + 1 ≤ R.length := by omega
          have h8c := HA6.out
          unfold wpOp
          simp only [ho]
          rw [if_pos (by rfl)]
          left
          rw [frame190]
          go_simp
          refine metK (hK.out (.slice a146 (R.length - (k + 1)) (c10 - (k + 1))) (fun d hd => by cases hd; exact rfl)) ?_
          simp [frame190, Act.put, *]
        · exact absurd hmi (by decide)
        · exact absurd hmi (by decide)
      · intro i o ho hmi vs X w' hqi hql hph hX hI K hK
        rcases vs with _ | ⟨v0, _ | ⟨v1, _ | ⟨v2, _ | ⟨v3, _⟩⟩⟩⟩
        · obtain rfl : 0 = i := hqi
          obtain rfl := Option.some.inj ho
          unfold wpOp
          simp only [ho]
          rw [if_pos (by rfl)]
          left
          rw [frame190]
          go_simp
          refine metK (hK.out (.slice (some ⟨w'.heap.size, 0, none⟩) 0 0) _ ⟨World.ownsRow_lit (base := wc.heap.size) (e := 38) (size := 19) w' #[] 0 hph.size (by unfold maxLen; omega) rfl, hph.trans ((Below.refl _ w').alloc (Nat.le_refl _) _)⟩) ?_
          simp [frame190, Act.put, *]
        · obtain rfl : 4 = i := hqi
          obtain rfl := Option.some.inj ho
          have e138 : X 138 = v0 := hX 0 138 (by simp) (by kernel_rfl)
          have e141 : X 141 = .slice a10 k c10 := hI 141 (by kernel_rfl)
          obtain ⟨hoq, hE1⟩ := hph
          unfold wpOp
          simp only [ho]
          rw [if_pos (by rfl)]
          left
          rw [frame190]
          refine wp_append_sl (enc := encR) _ _ _ rfl wc.heap.size 38 ir zr 19 232 Tryd.underlying23 hir0 hir1 hir2 hir3 hir4 (by decide) encR_len v0 0 [] e138 hoq _ e141 (R.take k) (HTK.out.ext hE1) (fun x hx => encR_one' x ((HOKT.out x hx).ext hE1)) (by have := HL5.out; unfold maxLen; simp; omega) (by have := HL5.out; simp; omega) hE1.size ?_
          intro v' w'' ho' hg
          refine metK (hK.out v' w'' ⟨by simpa using ho', Below.trans hE1 (grown_ext hg hoq hE1.size)⟩) ?_
          simp [frame190, Act.put, *]
        · obtain rfl : 9 = i := hqi
          obtain rfl := Option.some.inj ho
          have e142 : X 142 = v1 := hX 1 142 (by simp) (by kernel_rfl)
          have e146 : X 146 = .slice a146 (R.length - (k + 1)) (c10 - (k + 1)) := hI 146 (by kernel_rfl)
          obtain ⟨hoq, hE1⟩ := hph
          unfold wpOp
          simp only [ho]
          rw [if_pos (by rfl)]
          left
          rw [frame190]
          refine wp_append_sl (enc := encR) _ _ _ rfl wc.heap.size 38 ir zr 19 232 Tryd.underlying23 hir0 hir1 hir2 hir3 hir4 (by decide) encR_len v1 (R.take k).length ((R.take k).flatMap encR) e142 hoq _ e146 (R.drop (k + 1)) (HDK.out.ext hE1) (fun x hx => encR_one' x ((HOKD.out x hx).ext hE1)) (by have := HL5.out; unfold maxLen; simp; omega) (by have := HL5.out; simp; omega) hE1.size ?_
          intro v' w'' ho' hg
          refine metK (hK.out v' w'' ⟨by simpa using ho', Below.trans hE1 (grown_ext hg hoq hE1.size)⟩) ?_
          simp [frame190, Act.put, *]
        · obtain rfl : 10 = i := hqi
          obtain rfl := Option.some.inj ho
          have e147 : X 147 = v2 := hX 2 147 (by simp) (by kernel_rfl)
          obtain ⟨hoq, hE1⟩ := hph
          unfold wpOp
          simp only [ho]
          rw [if_pos (by rfl)]
          left
          rw [frame190]
          go_simp
          refine metK (hK.out v2 _ ⟨rfl, hoq, hE1⟩) ?_
          simp [frame190, Act.put, *]
        · simp at hql <;> omega
      · intro vs X w' hlen hph hX hI
        have e3 : X 3 = .int .i64 out := hI 3 (by omega) (by kernel_rfl)
        have e10 : X 10 = .slice a10 R.length c10 := hI 10 (by omega) (by kernel_rfl)
        have e11 : X 11 = .slice a11 D.length c11 := hI 11 (by omega) (by kernel_rfl)
        have e12 : X 12 = .string s := hI 12 (by omega) (by kernel_rfl)
        have e13 : X 13 = .int .i64 at1 := hI 13 (by omega) (by kernel_rfl)
        have e14 : X 14 = .bool is1 := hI 14 (by omega) (by kernel_rfl)
        have e23 : X 23 = .int .i64 k := hI 23 (by omega) (by kernel_rfl)
        have e139 : X 139 = .slice a10 R.length c10 := hI 139 (by omega) (by kernel_rfl)
        have e140 : X 140 = .int .i64 k := hI 140 (by omega) (by kernel_rfl)
        have e141 : X 141 = .slice a10 k c10 := hI 141 (by omega) (by kernel_rfl)
        have e143 : X 143 = .slice a10 R.length c10 := hI 143 (by omega) (by kernel_rfl)
        have e144 : X 144 = .int .i64 k := hI 144 (by omega) (by kernel_rfl)
        have e145 : X 145 = .int .i64 (k + 1) := hI 145 (by omega) (by kernel_rfl)
        have e146 : X 146 = .slice a146 (R.length - (k + 1)) (c10 - (k + 1)) := hI 146 (by omega) (by kernel_rfl)
        rcases vs with _ | ⟨v0, _ | ⟨v1, _ | ⟨v2, _ | ⟨v3, _ | ⟨vz, vs⟩⟩⟩⟩⟩
        · simp at hlen
        · simp at hlen
        · simp at hlen
        · simp at hlen
        rotate_left
        · simp at hlen
        have e24 : X 24 = v3 := hX 3 24 (by simp) (by kernel_rfl)
        have e138 : X 138 = v0 := hX 0 138 (by simp) (by kernel_rfl)
        have e142 : X 142 = v1 := hX 1 142 (by simp) (by kernel_rfl)
        have e147 : X 147 = v2 := hX 2 147 (by simp) (by kernel_rfl)
        clear hX hI hlen
        rw [frame190]
        simp only [e3, e10, e11, e12, e13, e14, e23, e24, e138, e139, e140, e141, e142, e143, e144, e145, e146, e147]
        obtain ⟨rfl, ho, hE1⟩ := hph
        have hFf : found (R.take k ++ R.drop (k + 1)) (bl s) D = (F.map fun a => if k < a then a - 1 else a).map (fun k : Nat => (k : Int)) := by
          cases hF0 : F with
          | none => exact fewer_none k hkl (by rw [HF.out, hF0]; rfl)
          | some a => exact fewer_at k hkl (by rw [HF.out, hF0]; rfl) (fun e => HNK.out (by rw [hF0, e]))
        have hmem : ∀ q ∈ R.take k ++ R.drop (k + 1), RuleOk wc q ∧ Right q := fun q hq => by
          rcases List.mem_append.1 hq with hq | hq
          · exact ⟨HOKT.out q hq, HRT.out q (List.mem_of_mem_take hq)⟩
          · exact ⟨HOKD.out q hq, HRT.out q (List.mem_of_mem_drop hq)⟩
        have hlen : (R.take k ++ R.drop (k + 1)).length ≤ 5 := by
          rw [fewer_len R k hkl]
          have := HL5.out
          omega
        obtain ⟨R', hR'⟩ : ∃ R', R.take k ++ R.drop (k + 1) = R' := ⟨_, rfl⟩
        rw [hR'] at ho hFf hmem hlen
        obtain ⟨x7, y7, hv7⟩ := owns_shape ho
        subst hv7
        have hsl : Rules w' (.slice x7 R'.length y7) R' := Sl.of_own' encR_len ho
        have hne : nerr R' 0 = 0 := nerr_right (fun q hq => (hmem q hq).2) (by omega) 0 (by omega)
        have hnew := hnew_any R' 0 _ w' hsl (fun q hq => ⟨(hmem q hq).1.ext hE1, (hmem q hq).2.1⟩) (HM.out.ext hE1)
        simp only [hne] at hnew
        have HNEW := hide hnew
        have HE1 := hide hE1
        have HFF := hide hFf
        clear hnew hE1 hFf hsl hne hmem hlen ho hR' HTK HOKT HOKD HDK HA6 HR HRT
        generalize w' = W5 at *
        go_wp2_with fail
        refine HNEW.out.mono ?_
        rintro e w8 ⟨E8, ⟨h, _⟩ | ⟨_, b2, Rs2, rfl, hT, hRs⟩⟩
        · exact absurd rfl h
        have hE8 := HE1.out.trans E8
        have hfc : findI Rs2 (rowR R') (bl s) D = (F.map fun a => if k < a then a - 1 else a).map (fun k : Nat => (k : Int)) := by
          rw [← HFF.out, ← found_core hRs, ← rowR_core hRs]
          rfl
        have hfind := find_any _ b2 Rs2 (rowR R') s D (.slice a11 D.length c11) w8 hT (fun x hx => by
          rw [← rowR_core hRs] at hx
          exact rowR_mem hx) HSZ.out (HM.out.ext hE8) (HD.out.ext hE8)
        rw [hfc] at hfind
        have HFI := hide hfind
        have HE8 := hide hE8
        clear hfind hfc hT hRs hE8 E8 HNEW HFF HE1
        go_wp2_with fail
        refine HFI.out.mono ?_
        rintro e w9 ⟨rfl, E9⟩
        have HE9 := hide (HE8.out.trans E9)
        have hlv := HLV.out
        have h1 := HAT.out
        have h2 := HIS.out
        clear E9 HFI HE8
        cases F with
        | none =>
          have h3 : is1 = false := h2
          have h4 : at1 = 0 := h1
          subst h3
          subst h4
          clear h1 h2 hlv
          go_wp2_with fail
          refine (HLV.out _ HE9.out).mono ?_
          rintro e w10 ⟨rfl, E10⟩
          go_wp2
          go_ret
          exact ⟨rfl, HE.out.trans (HE9.out.trans E10)⟩
        | some a =>
          have h3 : is1 = true := h2
          have h4 : at1 = (a : Int) := h1
          subst h3
          subst h4
          clear h1 h2 hlv
          have hal5 : a < 5 := by
            have := HFL.out a rfl
            have := HL5.out
            omega
          by_cases hka : k < a
          · have hkaz : (k : Int) < (a : Int) := by omega
            have hgv : (((some a).map fun a => if k < a then a - 1 else a).map (fun k : Nat => (k : Int))) = some ((a : Int) - 1) := by
              simp only [Option.map_some, if_pos hka]
              congr 1
              omega
            simp only [hgv, Option.getD_some, Option.isSome_some]
            clear hgv
            have hbe : (((a : Int) - 1) == ((a : Int) - 1)) = true := by simp
            go_wp2_with fail
            refine (HLV.out _ HE9.out).mono ?_
            rintro e w10 ⟨rfl, E10⟩
            go_wp2
            go_ret
            exact ⟨rfl, HE.out.trans (HE9.out.trans E10)⟩
          · have hkaz : ¬ (k : Int) < (a : Int) := by omega
            have hgv : (((some a).map fun a => if k < a then a - 1 else a).map (fun k : Nat => (k : Int))) = some (a : Int) := by
              simp only [Option.map_some, if_neg hka]
            simp only [hgv, Option.getD_some, Option.isSome_some]
            clear hgv
            have hbe : ((a : Int) == (a : Int)) = true := by simp
            go_wp2_with fail
            refine (HLV.out _ HE9.out).mono ?_
            rintro e w10 ⟨rfl, E10⟩
            go_wp2
            go_ret
            exact ⟨rfl, HE.out.trans (HE9.out.trans E10)⟩

end Go.Proofs.YtlaaapfpchnmeaaDoor
