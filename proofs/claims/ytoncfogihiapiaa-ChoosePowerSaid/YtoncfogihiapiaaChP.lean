/- ChoosePower: the walk. -/
import Derived.Test.YtoncfogihiapiaaChH
import Derived.Test.YtoncfogihiapiaaChN
namespace Go.Proofs.Ytoncfogihiapiaa
open Go.ChangeShapes Go.WideShapes Go.ChangeAt Go.RowKit Go.Maps Go.Shelf
theorem own_parts {w : World} {base : Nat} {e : TypeId} {v : Value} {n : Nat} {L : List (Int × Int)} (h : w.ownsRow base e 2 v n (L.flatMap encP)) (hl : L.length ≤ 9223372036854775807) : Parts w v L := by
  have hn : L.length = n := by have := h.1; rw [length_flatMap_enc encP_len'] at this; omega
  subst hn
  exact Sl.of_own (enc := encP) (size := 2) encP_len' h hl
set_option maxRecDepth 100000 in
set_option maxHeartbeats 8000000 in
theorem power_walk (l m : List Int) (v u : Value) (seed many : Int) (w : World) (h1 : Ints w v l) (h1i : ∀ x ∈ l, I64 x) (h2 : Ints w u m) (h2i : ∀ x ∈ m, I64 x) (h3 : U64 seed) (h4 : I64 many) :
    Calls Try.prog 4 #[v, u, .int .u64 seed, .int .i64 many] w fun e w' => e = .returned (.bool true) ∧ Ext w w' := by
  obtain ⟨_, ax, cx, rfl⟩ := h1.shape
  obtain ⟨_, ay, cy, rfl⟩ := h2.shape
  have H1 := hide h1
  have H2 := hide h2
  have H1I := hide h1i
  have H2I := hide h2i
  have b1 := around_bd many 21 (by omega)
  have har : ∀ u : World, Calls Try.prog 15 #[.int .i64 many, .int .i64 21] u fun e w' => e = .returned (.int .i64 (around many 21)) ∧ u = w' := fun u => around_any many _ u h4 (by omega)
  obtain ⟨q, hq⟩ : ∃ q, around many 21 = q := ⟨_, rfl⟩
  rw [hq] at b1 har
  have HAR := hide har
  have H3 := hide h3
  have hsl := someI_len l
  have hll := loads12_len m
  clear h1 h2 h1i h2i har hq h3
  go_enter Try.func4, Try.ntmps4
  go_wp2_with fail
  refine (some_any l _ _ H1.out H1I.out).mono ?_
  rintro e w1 ⟨v1, rfl, ho1, E1⟩
  have hs1 := own_ints_b ho1 (by omega)
  clear ho1
  go_wp2_with fail
  refine (loads12_any m _ _ (H2.out.ext E1) H2I.out).mono ?_
  rintro e w2 ⟨v2, rfl, ho2, E2⟩
  have hl2 := own_parts ho2 (by omega)
  have hs2 := hs1.ext E2
  have hsl6 := hsl.2
  have hnd := someI_nodup l
  clear ho2 hs1
  obtain ⟨S, hS⟩ : ∃ S, someI l = S := ⟨_, rfl⟩
  obtain ⟨L, hL⟩ : ∃ L, loads12 m = L := ⟨_, rfl⟩
  rw [hS] at hs2 hsl6 hnd
  rw [hL] at hl2 hll
  obtain ⟨_, a1, c1, rfl⟩ := hs2.shape
  obtain ⟨_, a2, c2, rfl⟩ := hl2.shape
  have HS := hide hs2
  have HL := hide hl2
  have HND := hide hnd
  have hslz : (S.length : Int) ≤ 6 := by omega
  clear hs2 hl2 hnd hS hL hsl
  by_cases hlt2 : S.length < 2
  · have hz : (S.length : Int) < 2 := by omega
    go_wp2_with fail
    refine (lives12_any _).mono ?_
    rintro e w7 ⟨rfl, E7⟩
    go_wp2_with fail
    go_ret
    exact ⟨rfl, E1.trans (E2.trans E7)⟩
  · have hz : ¬ (S.length : Int) < 2 := by omega
    obtain ⟨b, off, rfl, hbb, hc0⟩ := ints_at HS.out 0 (by omega)
    simp only [Nat.add_zero] at hc0
    obtain ⟨m0, hm0⟩ : ∃ m0, S[0] = m0 := ⟨_, rfl⟩
    rw [hm0] at hc0
    clear hm0
    have hld : ∀ (X : World) (z : Int), Ext w2 X → Calls Try.prog 9 #[.slice a2 L.length c2, .int .i64 z] X fun e w' => e = .returned (.int .i64 (loadI L z)) ∧ Ext X w' := fun X z hX => cload_any L z _ X (HL.out.ext hX)
    have HLD := hide hld
    have hcz : ∀ (X : World) (k : Nat), Ext w2 X → (hk : k < S.length) → X.cell? ⟨b, off + k, none⟩ = some (.int .i64 S[k]) := fun X k hX hk => by
      obtain ⟨b', off', e, _, hc⟩ := ints_at (HS.out.ext hX) k hk
      cases e; exact hc
    have HCZ := hide hcz
    clear hld hcz
    go_wp2_with fail
    go_loopw [11, 13] (fun mv i wr => ∃ (k : Nat) (mm : Int), 1 ≤ k ∧ k ≤ S.length ∧ i = .int .i64 k ∧ mv = .int .i64 mm ∧ Ext w2 wr) (fun _ i _ => S.length - (intOf i).toNat)
    case atStart => exact ⟨1, m0, by omega, by omega, rfl, rfl, Below.refl _ _⟩
    case round =>
      obtain ⟨k, mm, hk1, hk, rfl, rfl, hext⟩ := hrel
      by_cases hlt : k < S.length
      · have hc := HCZ.out wr k hext hlt
        obtain ⟨x, hx⟩ : ∃ x, S[k] = x := ⟨_, rfl⟩
        rw [hx] at hc
        obtain ⟨A, hA⟩ : ∃ A, loadI L x = A := ⟨_, rfl⟩
        obtain ⟨C, hC⟩ : ∃ C, loadI L mm = C := ⟨_, rfl⟩
        have HA := hide hA
        have HC := hide hC
        have hcz : ∀ X : World, Ext wr X → X.cell? ⟨b, off + k, none⟩ = some (.int .i64 x) := fun X hX => by have := HCZ.out X k (hext.trans hX) hlt; rw [hx] at this; exact this
        have HC2 := hide hcz
        clear hA hC hcz hx
        go_wp2_with fail
        refine (HLD.out _ x hext).mono ?_
        rintro e w7 ⟨rfl, E7⟩
        rw [HA.out]
        go_wp2_with fail
        refine (HLD.out _ mm (hext.trans E7)).mono ?_
        rintro e w8 ⟨rfl, E8⟩
        rw [HC.out]
        have hc8 := HC2.out _ (E7.trans E8)
        by_cases hgt : C < A
        · go_wp2
          go_roundw
          case rel => exact ⟨k + 1, x, by omega, hlt, by go_num, rfl, hext.trans (E7.trans E8)⟩
          case measure => simp [intOf]; omega
        · go_wp2
          go_roundw
          case rel => exact ⟨k + 1, mm, by omega, hlt, by go_num, rfl, hext.trans (E7.trans E8)⟩
          case measure => simp [intOf]; omega
      · obtain rfl : k = S.length := by omega
        have HE1 := hide hext
        clear hext
        go_wp2_with fail
        go_loopw [12, 14] (fun tv i wr => ∃ (k : Nat) (t : Bool), k ≤ S.length ∧ i = .int .i64 k ∧ tv = .bool t ∧ (t = true → ∀ y ∈ S.take k, y = mm ∨ loadI L y < loadI L mm) ∧ Ext w2 wr) (fun _ i _ => S.length - (intOf i).toNat)
        case atStart => exact ⟨0, true, by omega, rfl, rfl, by simp, HE1.out⟩
        case round =>
          obtain ⟨k, t, hk, rfl, rfl, hall, hext⟩ := hrel
          by_cases hlt : k < S.length
          · have hc := HCZ.out wr k hext hlt
            have htk := take_snoc S k hlt
            obtain ⟨x, hx⟩ : ∃ x, S[k] = x := ⟨_, rfl⟩
            rw [hx] at hc htk
            have hstep : t = true → (x = mm ∨ loadI L x < loadI L mm) → ∀ y ∈ S.take (k+1), y = mm ∨ loadI L y < loadI L mm := fun h1 h2 y hy => by
              rw [htk] at hy
              rcases List.mem_append.1 hy with h | h
              · exact hall h1 y h
              · simp at h; subst h; exact h2
            have HST := hide hstep
            clear hstep htk hx hall
            cases t with
            | false =>
              go_wp2
              go_roundw
              case rel => exact ⟨k + 1, false, hlt, by go_num, rfl, fun h => by simp at h, hext⟩
              case measure => simp [intOf]; omega
            | true =>
              by_cases hxm : x = mm
              · have hb : (x == mm) = true := by simp [hxm]
                have hs1 := HST.out rfl (.inl hxm)
                have HS1 := hide hs1
                clear hs1 hxm
                go_wp2
                go_roundw
                case rel => exact ⟨k + 1, true, hlt, by go_num, rfl, fun _ => HS1.out, hext⟩
                case measure => simp [intOf]; omega
              · have hb : (x == mm) = false := by simp [hxm]
                obtain ⟨A, hA⟩ : ∃ A, loadI L x = A := ⟨_, rfl⟩
                obtain ⟨C, hC⟩ : ∃ C, loadI L mm = C := ⟨_, rfl⟩
                have hs1 : A < C → ∀ y ∈ S.take (k+1), y = mm ∨ loadI L y < loadI L mm := fun h => HST.out rfl (.inr (by rw [hA, hC]; exact h))
                have HS1 := hide hs1
                have HA := hide hA
                have HC := hide hC
                clear hs1 hA hC hxm
                go_wp2_with fail
                refine (HLD.out _ x hext).mono ?_
                rintro e w7 ⟨rfl, E7⟩
                rw [HA.out]
                go_wp2_with fail
                refine (HLD.out _ mm (hext.trans E7)).mono ?_
                rintro e w8 ⟨rfl, E8⟩
                rw [HC.out]
                go_wp2
                go_roundw
                case rel => exact ⟨k + 1, decide (A < C), hlt, by go_num, rfl, fun h => HS1.out (by simpa using h), hext.trans (E7.trans E8)⟩
                case measure => simp [intOf]; omega
          · obtain rfl : k = S.length := by omega
            rw [List.take_length] at hall
            have HALL := hide hall
            have HSx := hide (HS.out.ext hext)
            have HLx := hide (HL.out.ext hext)
            clear hall
            go_wp2_with fail
            refine (newD_nil seed _ H3.out).mono ?_
            rintro e w4 ⟨B, rfl, hd4, hB4, E4⟩
            have HD4 := hide hd4
            clear hd4
            go_wp2_with fail
            refine (HAR.out _).mono ?_
            rintro e w4' ⟨rfl, rfl⟩
            obtain ⟨wz, hwz⟩ : ∃ wz, wr = wz := ⟨_, rfl⟩
            rw [hwz] at HSx HLx hB4 E4 hext
            go_wp2_with fail
            go_loopw [17] (fun i wr => ∃ k : Nat, (k : Int) ≤ q ∧ i = .int .i64 k ∧ DrawsAt wr B [] (2 * k) ∧ Ext wz wr) (fun i _ => (q - intOf i).toNat)
            case atStart => exact ⟨0, by omega, rfl, HD4.out, E4⟩
            case round =>
              obtain ⟨k, hk, rfl, hd, hex3⟩ := hrel
              by_cases hlt : (k : Int) < q
              · have HDD := hide hd
                clear hd
                go_wp2_with fail
                refine (new_any S _ 1 _ (HSx.out.ext hex3) (by omega) (by omega)).mono ?_
                rintro e w5 ⟨r5, rfl, hr5, E5⟩
                obtain ⟨Br, rfl⟩ := hr5.shape'
                clear hr5
                go_wp2_with fail
                refine (pickTwo_any wz w5 S L _ _ _ _ B Br 0 (2 * k) HSx.out HLx.out (hex3.trans E5) hB4 (HDD.out.ext E5) (by omega) (by omega) (by omega)).mono ?_
                rintro e w6 ⟨x, rfl, hbt, hd6, E6⟩
                have hin : S.contains x = true := by simpa using byTwo_mem hbt
                have hnot : t = true → (x == mm) = false := fun ht => by
                  have := byTwo_not hbt HND.out (HALL.out ht)
                  simp [this]
                have HNOT := hide hnot
                have HIN := hide hin
                have HD6 := hide hd6
                clear hnot hin hbt hd6
                go_wp2_with fail
                refine (has_any S x _ _ (HSx.out.ext E6)).mono ?_
                rintro e w7 ⟨rfl, rfl⟩
                rw [HIN.out]
                cases t with
                | false =>
                  go_wp2
                  go_roundw
                  case rel => exact ⟨k + 1, by omega, by go_num, HD6.out, E6⟩
                  case measure => simp [intOf]; omega
                | true =>
                  have hxf := HNOT.out rfl
                  go_wp2
                  go_roundw
                  case rel => exact ⟨k + 1, by omega, by go_num, HD6.out, E6⟩
                  case measure => simp [intOf]; omega
              · have hq : (k : Int) = q := by omega
                go_wp2_with fail
                refine (lives12_any _).mono ?_
                rintro e w9 ⟨rfl, E9⟩
                go_wp2_with fail
                go_ret
                exact ⟨rfl, E1.trans (E2.trans (hext.trans (hex3.trans E9)))⟩
end Go.Proofs.Ytoncfogihiapiaa
