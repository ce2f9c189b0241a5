/- ChooseIn: the walk. -/
import Derived.Test.YtoncfogihiapiaaChT
import Derived.Test.YtoncfogihiapiaaChH
namespace Go.Proofs.Ytoncfogihiapiaa
open Go.ChangeShapes Go.WideShapes Go.ChangeAt Go.RowKit Go.Maps Go.Shelf
theorem up_le (a b n : Int) (hb : 0 < b) : upI a b ≤ n ↔ a ≤ n * b := by
  have h1 := Int.mul_ediv_add_emod a b
  have h2 := Int.emod_nonneg a (show b ≠ 0 by omega)
  have h3 := Int.emod_lt_of_pos a hb
  have hc : b * (a / b) = (a / b) * b := Int.mul_comm _ _
  unfold upI
  constructor
  · intro h
    by_cases hr : 0 < a % b
    · rw [if_pos hr] at h
      have e := Int.mul_le_mul_of_nonneg_right h (show 0 ≤ b by omega)
      rw [Int.add_mul] at e
      omega
    · rw [if_neg hr] at h
      have e := Int.mul_le_mul_of_nonneg_right h (show 0 ≤ b by omega)
      omega
  · intro h
    by_cases hr : 0 < a % b
    · rw [if_pos hr]
      have : (a / b) * b < n * b := by omega
      have := Int.lt_of_mul_lt_mul_right this (show 0 ≤ b by omega)
      omega
    · rw [if_neg hr]
      have : (a / b) * b ≤ n * b := by omega
      exact Int.le_of_mul_le_mul_right this hb
theorem up_ge (a b : Int) (hb : 0 < b) : a ≤ upI a b * b := (up_le a b _ hb).1 (Int.le_refl _)
theorem up_lt (a b : Int) (hb : 0 < b) : upI a b * b < a + b := by
  have h1 := Int.mul_ediv_add_emod a b
  have h3 := Int.emod_lt_of_pos a hb
  have h2 := Int.emod_nonneg a (show b ≠ 0 by omega)
  have hc : b * (a / b) = (a / b) * b := Int.mul_comm _ _
  unfold upI
  by_cases hr : 0 < a % b
  · rw [if_pos hr, Int.add_mul]; omega
  · rw [if_neg hr]; omega
theorem up_nonneg (a b : Int) (ha : 0 ≤ a) (hb : 0 < b) : 0 ≤ upI a b := by
  have := Int.ediv_nonneg ha (show 0 ≤ b by omega)
  unfold upI; split <;> omega
theorem cap_bd (a k p : Int) (ha : 0 ≤ a ∧ a < 2147483648) (hk : 1 ≤ k ∧ k ≤ 1000) (hp : 100 ≤ p ∧ p ≤ 1000) :
    a < capI a k p * k ∧ 1 ≤ capI a k p ∧ capI a k p * k ≤ 100000000000 ∧ capI a k p ≤ 100000000000 := by
  unfold capI
  have h0 : 0 ≤ (a + 1) * p := Int.mul_nonneg (by omega) (by omega)
  have h1 := up_ge ((a + 1) * p) (100 * k) (by omega)
  have h2 := up_lt ((a + 1) * p) (100 * k) (by omega)
  have h3 := up_nonneg ((a + 1) * p) (100 * k) h0 (by omega)
  have h4 : (a + 1) * 100 ≤ (a + 1) * p := Int.mul_le_mul_of_nonneg_left hp.1 (by omega)
  have h5 : (a + 1) * p ≤ (a + 1) * 1000 := Int.mul_le_mul_of_nonneg_left hp.2 (by omega)
  obtain ⟨c, hc⟩ : ∃ c, upI ((a + 1) * p) (100 * k) = c := ⟨_, rfl⟩
  rw [hc] at h1 h2 h3 ⊢
  have e : c * (100 * k) = 100 * (c * k) := by rw [Int.mul_left_comm]
  rw [e] at h1 h2
  obtain ⟨d, hd⟩ : ∃ d, c * k = d := ⟨_, rfl⟩
  have h6 : c * 1 ≤ c * k := Int.mul_le_mul_of_nonneg_left hk.1 h3
  rw [hd] at h1 h2 h6 ⊢
  have h7 : 1 ≤ c := by
    rcases Int.lt_or_le c 1 with h | h
    · have : c = 0 := by omega
      rw [this] at hd; simp at hd; omega
    · exact h
  exact ⟨by omega, h7, by omega, by omega⟩
theorem pigeonL (R : List Int) (L : List (Int × Int)) (p : Int) (hne : R ≠ []) (hl : R.length ≤ 1000) (hL : ∀ x ∈ L, 0 ≤ x.2 ∧ x.2 ≤ 2000000) (hp : 100 ≤ p ∧ p ≤ 1000) : (pickOf R L p).isSome = true := by
  cases hf : pickOf R L p with
  | some c => rfl
  | none =>
    exfalso
    have hpos := List.length_pos_iff.2 hne
    have hb := sumL_bd R L 2000000 (by omega) hL
    have hc := cap_bd (sumL R L) R.length p (by omega) (by omega) hp
    have hall : ∀ x ∈ R, capI (sumL R L) R.length p ≤ loadI L x := fun x hx => by
      have := List.find?_eq_none.1 hf x hx
      simpa using this
    have hsum : ∀ (C : Int) (Q : List Int), (∀ x ∈ Q, C ≤ loadI L x) → C * Q.length ≤ sumL Q L := by
      intro C Q
      unfold sumL
      induction Q with
      | nil => intro _; simp
      | cons x Q ih =>
        intro h
        have h1 := ih (fun y hy => h y (List.mem_cons_of_mem _ hy))
        have h2 := h x (by simp)
        simp only [List.map_cons, List.sum_cons, List.length_cons]
        have e : C * ((Q.length + 1 : Nat) : Int) = C * (Q.length : Int) + C := by rw [Int.natCast_add, Int.mul_add]; simp
        omega
    have := hsum _ R hall
    omega
theorem pick_iff (R : List Int) (L : List (Int × Int)) (p : Int) (hl : R.length ≤ 1000) (hL : ∀ x ∈ L, 0 ≤ x.2 ∧ x.2 ≤ 2000000) (hp : 100 ≤ p ∧ p ≤ 1000) : (R = [] ∧ pickOf R L p = none) ∨ (R ≠ [] ∧ ∃ x, pickOf R L p = some x ∧ x ∈ R ∧ loadI L x < capI (sumL R L) R.length p) := by
  by_cases h : R = []
  · subst h; exact .inl ⟨rfl, rfl⟩
  · have hs := pigeonL R L p h hl hL hp
    obtain ⟨x, hx⟩ := Option.isSome_iff_exists.1 hs
    refine .inr ⟨h, x, hx, List.mem_of_find?_eq_some hx, ?_⟩
    have := List.find?_some hx
    simpa using this
theorem pickB_iff (row S : List Int) (L : List (Int × Int)) (hl : row.length ≤ 1000) (hL : ∀ x ∈ L, 0 ≤ x.2 ∧ x.2 ≤ 2000000) : (pickB row S L).isSome = (pickR row S).isSome := by
  have hc : (cnt row S).length ≤ 1000 := Nat.le_trans (List.length_filter_le _ _) hl
  unfold pickB pickR
  rcases pick_iff (cnt row S) L 125 hc hL (by omega) with ⟨h1, h2⟩ | ⟨h1, x, h2, _⟩
  · rw [h2, h1]; rfl
  · rw [h2]
    cases h : cnt row S with
    | nil => exact absurd h h1
    | cons a l => rfl
theorem pickB_mem {row S : List Int} {L : List (Int × Int)} {x : Int} (h : pickB row S L = some x) : x ∈ S ∧ x ∈ row := by
  have := List.mem_of_find?_eq_some (show (cnt row S).find? _ = some x from h)
  unfold cnt at this
  rw [List.mem_filter] at this
  exact ⟨by simpa using this.2, this.1⟩
theorem pickB_nil (row : List Int) (L : List (Int × Int)) : pickB row [] L = none := by unfold pickB; rw [cnt_nil]; rfl
/-- are some on the ring? -/
def bothI (I S : List Int) : Bool := S.any (fun x => I.contains x)
theorem bothI_succ (I S : List Int) (k : Nat) (h : k < S.length) : bothI I (S.take (k+1)) = (bothI I (S.take k) || I.contains S[k]) := by
  unfold bothI; rw [take_snoc S k h, List.any_append]; simp
theorem pickR_both (key : Int) (p0 : Nat) (hp : 0 < p0) (I S : List Int) : (pickR (rowOf key (pointsOf p0 I)) S).isSome = bothI I S := by
  rw [Bool.eq_iff_iff]
  unfold bothI
  rw [List.any_eq_true]
  constructor
  · intro h
    obtain ⟨x, hx⟩ := Option.isSome_iff_exists.1 h
    obtain ⟨h1, h2⟩ := pickR_mem hx
    exact ⟨x, h1, by rw [List.contains_iff_mem]; exact (rowOf_mem key p0 hp I x).1 h2⟩
  · rintro ⟨x, h1, h2⟩
    rw [List.contains_iff_mem] at h2
    cases h : pickR (rowOf key (pointsOf p0 I)) S with
    | none => exact absurd h1 (pickR_none.1 h x ((rowOf_mem key p0 hp I x).2 h2))
    | some y => rfl
/-- what Pick by two, of draws of a seed, tells -/
theorem pickA_any (w0 w : World) (S : List Int) (L : List (Int × Int)) (a1 : Option Addr) (c1 : Nat) (a2 : Option Addr) (c2 : Nat) (B Br : Nat) (key : Int) (hs : Ints w0 (.slice a1 S.length c1) S) (hL : Parts w0 (.slice a2 L.length c2) L) (he : Ext w0 w) (hB : w0.heap.size ≤ B) (hd : DrawsAt w B [] 0) (hl : S.length ≤ 1000) :
    Calls Try.prog 16 #[.int .i64 1, .pointer (some ⟨Br, 0, none⟩), .slice a1 S.length c1, .int .u64 key, .slice a2 L.length c2, .pointer (some ⟨B, 0, none⟩)] w fun e w' => ∃ x b, e = .returned (.tuple #[.int .i64 x, .bool b]) ∧ (b = decide (0 < S.length) ∧ (b = true → S.contains x = true)) ∧ Ext w0 w' := by
  by_cases h0 : S.length = 0
  · have hS := List.eq_nil_of_length_eq_zero h0
    subst hS
    refine (pick0g_any w 1 a1 c1 L.length c2 a2 Br B key).mono ?_
    rintro e w' ⟨rfl, E⟩
    exact ⟨0, false, rfl, ⟨rfl, fun h => by cases h⟩, he.trans E⟩
  · by_cases h1 : S.length = 1
    · obtain ⟨x, rfl⟩ : ∃ x, S = [x] := List.length_eq_one_iff.1 h1
      refine (pick1_any w a1 1 c1 a2 L.length c2 Br B key (fun y w' => y = x ∧ Ext w0 w') (by omega) (fun W hW => ?_)).mono ?_
      · refine (byTwo_one x _ _ _ W (hs.ext (he.trans hW))).mono ?_
        rintro e w' ⟨rfl, rfl⟩
        exact ⟨x, rfl, rfl, he.trans hW⟩
      · rintro e w' ⟨y, rfl, rfl, hE⟩
        exact ⟨y, true, rfl, ⟨by simp, fun _ => by simp⟩, hE⟩
    · refine (pickTwo_any w0 w S L a1 c1 a2 c2 B Br key 0 hs hL he hB hd (by omega) (by omega) hl).mono ?_
      rintro e w' ⟨x, rfl, hx, _, hE⟩
      refine ⟨x, true, rfl, ⟨?_, fun _ => ?_⟩, hE⟩
      · symm; rw [decide_eq_true_eq]; omega
      · rw [List.contains_iff_mem]; exact byTwo_mem hx
theorem pick3g_any (w : World) (S : List Int) (a : Option Addr) (cap : Nat) (a2 : Option Addr) (cap2 : Nat) (Br Bd : Nat) (key : Int) (p0 : Nat) (I : List Int) (L : List (Int × Int))
    (hr : RingAt w (.pointer (some ⟨Br, 0, none⟩)) (ends I).length (pointsOf p0 I)) (hp0 : 0 < p0) (hI : ∀ x ∈ I, I64 x) (hs : Ints w (.slice a S.length cap) S) (hL : Parts w (.slice a2 L.length cap2) L) (hIl : I.length ≤ 1000) (hSl : S.length ≤ 1000) (hSb : ∀ x ∈ S, I64 x) (hL2 : ∀ x ∈ L, 0 ≤ x.2 ∧ x.2 ≤ 2000000) :
    Calls Try.prog 16 #[.int .i64 3, .pointer (some ⟨Br, 0, none⟩), .slice a S.length cap, .int .u64 key, .slice a2 L.length cap2, .pointer (some ⟨Bd, 0, none⟩)] w fun e w' => e = .returned (.tuple #[.int .i64 ((pickB (rowOf key (pointsOf p0 I)) S L).getD 0), .bool (pickB (rowOf key (pointsOf p0 I)) S L).isSome]) ∧ Ext w w' := by
  cases S with
  | nil =>
    rw [pickB_nil]
    exact pick0g_any w 3 a cap _ cap2 a2 Br Bd key
  | cons x S => exact pick3_any w (x :: S) a cap a2 L.length cap2 Br Bd key p0 I (by simp) hr hp0 hI hs L hL rfl hIl hSl hSb hL2
/-- what Pick by ring, or by bound, tells -/
theorem pickC_any (kind : Int) (hk : kind = 2 ∨ kind = 3) (w : World) (S : List Int) (a : Option Addr) (cap : Nat) (a2 : Option Addr) (cap2 : Nat) (Br Bd : Nat) (key : Int) (p0 : Nat) (I : List Int) (L : List (Int × Int))
    (hr : RingAt w (.pointer (some ⟨Br, 0, none⟩)) (ends I).length (pointsOf p0 I)) (hp0 : 0 < p0) (hI : ∀ x ∈ I, I64 x) (hs : Ints w (.slice a S.length cap) S) (hL : Parts w (.slice a2 L.length cap2) L) (hIl : I.length ≤ 1000) (hSl : S.length ≤ 1000) (hSb : ∀ x ∈ S, I64 x) (hL2 : ∀ x ∈ L, 0 ≤ x.2 ∧ x.2 ≤ 2000000) :
    Calls Try.prog 16 #[.int .i64 kind, .pointer (some ⟨Br, 0, none⟩), .slice a S.length cap, .int .u64 key, .slice a2 L.length cap2, .pointer (some ⟨Bd, 0, none⟩)] w fun e w' => ∃ x b, e = .returned (.tuple #[.int .i64 x, .bool b]) ∧ (b = bothI I S ∧ (b = true → S.contains x = true ∧ I.contains x = true)) ∧ Ext w w' := by
  have hrl := rowOf_le key p0 hp0 I
  rcases hk with rfl | rfl
  · refine (pick2g_any w S a cap a2 L.length cap2 Br Bd key p0 I hr hp0 hI hs).mono ?_
    rintro e w' ⟨rfl, hE⟩
    refine ⟨_, _, rfl, ⟨pickR_both key p0 hp0 I S, fun h => ?_⟩, hE⟩
    obtain ⟨x, hx⟩ := Option.isSome_iff_exists.1 h
    rw [hx, List.contains_iff_mem, List.contains_iff_mem]
    exact ⟨(pickR_mem hx).1, (rowOf_mem key p0 hp0 I x).1 (pickR_mem hx).2⟩
  · refine (pick3g_any w S a cap a2 cap2 Br Bd key p0 I L hr hp0 hI hs hL hIl hSl hSb hL2).mono ?_
    rintro e w' ⟨rfl, hE⟩
    refine ⟨_, _, rfl, ⟨by rw [pickB_iff _ _ _ (by omega) hL2]; exact pickR_both key p0 hp0 I S, fun h => ?_⟩, hE⟩
    obtain ⟨x, hx⟩ := Option.isSome_iff_exists.1 h
    rw [hx, List.contains_iff_mem, List.contains_iff_mem]
    exact ⟨(pickB_mem hx).1, (rowOf_mem key p0 hp0 I x).1 (pickB_mem hx).2⟩
set_option maxRecDepth 100000 in
set_option maxHeartbeats 8000000 in
theorem in_walk (on l m : List Int) (v u x : Value) (key seed : Int) (w : World) (h0 : Ints w v on) (h0i : ∀ x ∈ on, I64 x) (h1 : Ints w u l) (h1i : ∀ x ∈ l, I64 x) (h2 : Ints w x m) (h2i : ∀ x ∈ m, I64 x) (h4 : U64 seed) :
    Calls Try.prog 5 #[v, u, x, .int .u64 key, .int .u64 seed] w fun e w' => e = .returned (.bool true) ∧ Ext w w' := by
  obtain ⟨_, ax, cx, rfl⟩ := h0.shape
  obtain ⟨_, ay, cy, rfl⟩ := h1.shape
  obtain ⟨_, az, cz, rfl⟩ := h2.shape
  have H0 := hide h0
  have H1 := hide h1
  have H2 := hide h2
  have H4 := hide h4
  have H0I := hide h0i
  have H1I := hide h1i
  have H2I := hide h2i
  obtain ⟨p, hp, hp1, hp6⟩ := madeP_nat on
  have hlen := madeI_len on
  have hmade : ∀ u, Ints u (.slice ax on.length cx) on → Calls Try.prog 19 #[.slice ax on.length cx] u fun e w' => ∃ v', e = .returned (.tuple #[v', .int .i64 p]) ∧ w'.ownsRow u.heap.size 3 1 v' (madeI on).length ((madeI on).flatMap encI) ∧ Ext u w' := fun u hu =>
    (made_any on _ u hu H0I.out).mono (by rintro e w' ⟨v', rfl, ho, he⟩; exact ⟨v', by rw [hp], ho, he⟩)
  have HMD := hide hmade
  have hbd := madeI_bd on
  obtain ⟨I, hI⟩ : ∃ I, madeI on = I := ⟨_, rfl⟩
  have hlen2 : I.length ≤ 8 := by rw [← hI]; exact hlen
  have hI64 : ∀ x ∈ I, I64 x := fun x hx => by have := hbd x (by rw [hI]; exact hx); unfold I64; omega
  have HI := hide hI
  have HI64 := hide hI64
  have hsl := someI_len l
  have hsb := someI_bd l
  obtain ⟨S, hS⟩ : ∃ S, someI l = S := ⟨_, rfl⟩
  rw [hS] at hsl hsb
  have hS64 : ∀ x ∈ S, I64 x := fun x hx => by have := hsb x hx; unfold I64; omega
  have HS := hide hS
  have HS64 := hide hS64
  have hl6 : S.length ≤ 6 := hsl.2
  have hl6z : (S.length : Int) ≤ 6 := by omega
  have hll := loads12_len m
  have hlb := loads12_bd m
  obtain ⟨L, hL⟩ : ∃ L, loads12 m = L := ⟨_, rfl⟩
  rw [hL] at hll hlb
  have HL := hide hL
  have HL2 := hide (show ∀ x ∈ L, 0 ≤ x.2 ∧ x.2 ≤ 2000000 from fun x hx => by have := hlb x hx; omega)
  clear h0 h1 h2 h0i h1i h2i h4 hmade hp hlen hbd hI64 hI hsl hS hsb hS64 hlb hL
  go_enter Try.func5, Try.ntmps5
  go_wp2_with fail
  refine (HMD.out _ H0.out).mono ?_
  rintro e w1 ⟨v1, rfl, ho1, E1⟩
  rw [HI.out] at ho1
  have hi1 := own_ints ho1 (by omega)
  obtain ⟨_, a1, c1, rfl⟩ := hi1.shape
  have HI1 := hide hi1
  clear ho1 hi1
  go_wp2_with fail
  refine (some_any l _ _ (H1.out.ext E1) H1I.out).mono ?_
  rintro e w2 ⟨v2, rfl, ho2, E2⟩
  rw [HS.out] at ho2
  have hi2 := own_ints_b ho2 (by omega)
  obtain ⟨_, a2, c2, rfl⟩ := hi2.shape
  have HI2 := hide hi2
  clear ho2 hi2
  go_wp2_with fail
  refine (loads12_any m _ _ (H2.out.ext (E1.trans E2)) H2I.out).mono ?_
  rintro e w3 ⟨v3, rfl, ho3, E3⟩
  rw [HL.out] at ho3
  have hi3 := own_parts_t ho3 (by omega)
  obtain ⟨_, a3, c3, rfl⟩ := hi3.shape
  have HI3 := hide hi3
  clear ho3 hi3
  go_wp2_with fail
  refine (new_any I _ p _ (HI1.out.ext (E2.trans E3)) (by omega) (by omega)).mono ?_
  rintro e w4 ⟨r4, rfl, hr4, E4⟩
  obtain ⟨Br, rfl⟩ := hr4.shape'
  have HR := hide hr4
  have HI1x := hide (HI1.out.ext (E2.trans (E3.trans E4)))
  have HI2x := hide (HI2.out.ext (E3.trans E4))
  have HI3x := hide (HI3.out.ext E4)
  have HE := hide (E1.trans (E2.trans (E3.trans E4)))
  obtain ⟨wz, hwz⟩ : ∃ wz, w4 = wz := ⟨_, rfl⟩
  subst hwz
  clear HI1 HI2 HI3 hr4 E1 E2 E3 E4
  go_wp2_with fail
  go_loopw [16, 17] (fun b i wr => ∃ k : Nat, k ≤ S.length ∧ i = .int .i64 k ∧ b = .bool (bothI I (S.take k)) ∧ wr = w4) (fun _ i _ => S.length - (intOf i).toNat)
  case atStart => exact ⟨0, by omega, rfl, rfl, rfl⟩
  case round =>
    obtain ⟨k, hk, rfl, rfl, rfl⟩ := hrel
    by_cases hlt : k < S.length
    · obtain ⟨b, off, rfl, hbb, hc⟩ := ints_at HI2x.out k hlt
      have hsn := bothI_succ I S k hlt
      obtain ⟨y, hy⟩ : ∃ y, S[k] = y := ⟨_, rfl⟩
      rw [hy] at hc hsn
      obtain ⟨t, ht⟩ : ∃ t, bothI I (S.take k) = t := ⟨_, rfl⟩
      rw [ht] at hsn ⊢
      have HSN := hide hsn
      clear hsn hy ht
      cases t with
      | true =>
        go_wp2_with fail
        go_roundw
        case rel => exact ⟨k + 1, hlt, by go_num, by rw [HSN.out]; rfl, trivial⟩
        case measure => simp [intOf]; omega
      | false =>
        obtain ⟨c, hcc⟩ : ∃ c, I.contains y = c := ⟨_, rfl⟩
        have hs2 := HSN.out
        rw [hcc] at hs2
        have HS2 := hide hs2
        have HCC := hide hcc
        clear hs2 hcc HSN
        go_wp2_with fail
        refine (has_any I y _ _ HI1x.out).mono ?_
        rintro e w7 ⟨rfl, rfl⟩
        rw [HCC.out]
        go_wp2_with fail
        go_roundw
        case rel => exact ⟨k + 1, hlt, by go_num, by rw [HS2.out]; rfl, trivial⟩
        case measure => simp [intOf]; omega
    · obtain rfl : k = S.length := by omega
      rw [List.take_length]
      obtain ⟨t, ht⟩ : ∃ t, bothI I S = t := ⟨_, rfl⟩
      rw [ht]
      have HT := hide ht
      clear ht
      go_wp2_with fail
      go_loopw [18] (fun i u => ∃ j : Int, 1 ≤ j ∧ j ≤ 4 ∧ i = .int .i64 j ∧ Ext wr u) (fun i _ => (4 - intOf i).toNat)
      case atStart => exact ⟨1, by omega, by omega, rfl, Below.refl _ _⟩
      case round =>
        obtain ⟨j, hj1, hj2, rfl, hext⟩ := hrel
        by_cases h4 : j = 4
        · subst h4
          go_wp2_with fail
          refine (lives12_any _).mono ?_
          rintro e w9 ⟨rfl, E9⟩
          go_wp2_with fail
          go_ret
          exact ⟨rfl, HE.out.trans (hext.trans E9)⟩
        · have hj : j = 1 ∨ j = 2 ∨ j = 3 := by omega
          clear hj1 hj2 h4
          rcases hj with rfl | hj23
          · go_wp2_with fail
            refine (newD_nil seed _ H4.out).mono ?_
            rintro e w5 ⟨B, rfl, hd, hB, E5⟩
            go_wp2_with fail
            refine (pickA_any _ w5 S L a2 c2 a3 c3 B Br key (HI2x.out.ext hext) (HI3x.out.ext hext) E5 hB hd (by omega)).mono ?_
            rintro e w6 ⟨x, b, rfl, ⟨hb, hin⟩, E6⟩
            cases b with
            | false =>
              have hz : decide (0 < S.length) = false := hb.symm
              clear hb hin hd hB
              go_wp2
              go_roundw
              case rel => exact ⟨2, by omega, by omega, rfl, hext.trans E6⟩
              case measure => simp [intOf]
            | true =>
              have hz : decide (0 < S.length) = true := hb.symm
              have hx := hin rfl
              have HX := hide hx
              clear hb hin hx hd hB
              go_wp2_with fail
              refine (has_any S x _ _ (HI2x.out.ext (hext.trans E6))).mono ?_
              rintro e w7 ⟨rfl, rfl⟩
              rw [HX.out]
              go_wp2
              go_roundw
              case rel => exact ⟨2, by omega, by omega, rfl, hext.trans E6⟩
              case measure => simp [intOf]
          · have hkn : (j == 1) = false := by rcases hj23 with rfl | rfl <;> rfl
            have hkb : 2 ≤ j ∧ j ≤ 3 := by omega
            have HJ := hide hj23
            clear hj23
            obtain ⟨hkb1, hkb2⟩ := hkb
            go_wp2_with fail
            refine (newD_nil seed _ H4.out).mono ?_
            rintro e w5 ⟨B, rfl, hd, hB, E5⟩
            go_wp2_with fail
            refine (pickC_any j HJ.out w5 S a2 c2 a3 c3 Br B key p I L (HR.out.ext (hext.trans E5)) (by omega) HI64.out (HI2x.out.ext (hext.trans E5)) (HI3x.out.ext (hext.trans E5)) (by omega) (by omega) HS64.out HL2.out).mono ?_
            rintro e w6 ⟨x, b, rfl, ⟨hb, hin⟩, E6⟩
            obtain rfl : b = t := hb.trans HT.out
            have HHIN := hide hin
            clear hb hin hd hB
            cases b with
            | false =>
              go_wp2
              go_roundw
              case rel => exact ⟨j + 1, by omega, by omega, by go_num, hext.trans (E5.trans E6)⟩
              case measure => simp [intOf]; omega
            | true =>
              obtain ⟨hx1, hx2⟩ := HHIN.out rfl
              have HX1 := hide hx1
              have HX2 := hide hx2
              clear hx1 hx2
              go_wp2_with fail
              refine (has_any S x _ _ (HI2x.out.ext (hext.trans (E5.trans E6)))).mono ?_
              rintro e w7 ⟨rfl, rfl⟩
              rw [HX1.out]
              go_wp2_with fail
              refine (has_any I x _ _ (HI1x.out.ext (hext.trans (E5.trans E6)))).mono ?_
              rintro e w7 ⟨rfl, rfl⟩
              rw [HX2.out]
              go_wp2
              go_roundw
              case rel => exact ⟨j + 1, by omega, by omega, by go_num, hext.trans (E5.trans E6)⟩
              case measure => simp [intOf]; omega
end Go.Proofs.Ytoncfogihiapiaa
