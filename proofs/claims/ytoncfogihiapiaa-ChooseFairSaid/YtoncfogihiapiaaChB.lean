/- draw: Next, Below, Two, New. -/
import Derived.Test.YtoncfogihiapiaaChA
namespace Go.Proofs.Ytoncfogihiapiaa
open Go.ChangeShapes Go.WideShapes Go.ChangeAt Go.RowKit Go.Maps Go.Shelf
theorem grown_trans {a b c : World} {r : Option Nat} (h : a.grownBy b r) (k : b.grownBy c r) : a.grownBy c r :=
  ⟨k.os.trans h.os, k.tape.trans h.tape, k.output.trans h.output, Nat.le_trans h.size k.size, fun i hi hn => (k.block i (Nat.lt_of_lt_of_le hi h.size) hn).trans (h.block i hi hn)⟩
set_option maxRecDepth 100000 in
set_option maxHeartbeats 1000000 in
theorem fromSeed_any (w : World) (B : Nat) (f sv : Value) (seed : Int) (u : Value) (h : w.heap[B]? = some (.cells #[f, sv, .int .u64 seed, u] 54 (0, 0))) :
    Calls Try.prog 23 #[.pointer (some ⟨B, 0, none⟩)] w fun e w' => ∃ z s, e = .returned (.int .u64 z) ∧ U64 z ∧ U64 s ∧ w' = w.setCell ⟨B, 2, none⟩ (.int .u64 s) := by
  obtain ⟨c0, c1, c2, c3, f0, f1, f2, f3⟩ := cell_dr h
  have hb := wrap_u64_bd (seed + 11400714819323198485)
  have hsc : ∀ W : World, Calls Try.prog 47 #[.int .u64 (IntKind.u64.wrap (seed + 11400714819323198485))] W fun e w' => e = .returned (.int .u64 (scr (IntKind.u64.wrap (seed + 11400714819323198485)))) ∧ W = w' := fun W => scr_any _ W hb
  have hs2 := scr_bd (IntKind.u64.wrap (seed + 11400714819323198485))
  have hc : (w.setCell ⟨B, 2, none⟩ (.int .u64 (IntKind.u64.wrap (seed + 11400714819323198485)))).cell? ⟨B, 2, none⟩ = some (.int .u64 (IntKind.u64.wrap (seed + 11400714819323198485))) := by
    have := set_dr h 2 (.int .u64 (IntKind.u64.wrap (seed + 11400714819323198485)))
    simp [World.cell?, this]
  have HB := hide hb
  have HS := hide hsc
  have HS2 := hide hs2
  clear hb hsc hs2 h
  go_enter Try.func23, Try.ntmps23
  go_wp2_with fail
  refine (HS.out _).mono ?_
  rintro e w' ⟨rfl, rfl⟩
  go_wp2_with fail
  go_ret
  exact ⟨_, _, rfl, HS2.out, HB.out, rfl⟩
set_option maxRecDepth 100000 in
set_option maxHeartbeats 2000000 in
theorem fromSaid_any (w : World) (B : Nat) (fs : Nat) (seed : Int) (u : Value) (x : Int) (xs : List Int) (ad : Addr) (cap : Nat) (h : w.heap[B]? = some (.cells #[.func (.func fs) #[] #[], .slice (some ad) (x :: xs).length cap, .int .u64 seed, u] 54 (0, 0)))
    (hu : UInts w (.slice (some ad) (x :: xs).length cap) (x :: xs)) (hn : ad.block ≠ B) :
    Calls Try.prog 25 #[.pointer (some ⟨B, 0, none⟩)] w fun e w' => e = .returned (.int .u64 x) ∧ w.grownBy w' (some B) ∧
      ∃ g sv, w'.heap[B]? = some (.cells #[.func (.func g) #[] #[], sv, .int .u64 seed, u] 54 (0, 0)) ∧ ((xs = [] ∧ g = 23) ∨ (xs ≠ [] ∧ g = fs ∧ ∃ ad' cap', sv = .slice (some ad') xs.length cap' ∧ UInts w' sv xs ∧ ad'.block ≠ B)) := by
  obtain ⟨c0, c1, c2, c3, f0, f1, f2, f3⟩ := cell_dr h
  obtain ⟨b, off, e0, hb, hc⟩ := uints_at hu 0 (by simp)
  cases e0
  have hcap : (x :: xs).length ≤ cap := by obtain ⟨_, a', c', e, h', _⟩ := hu; cases e; exact h'.1
  simp only [Nat.add_zero, List.getElem_cons_zero] at hc
  have hbn : b ≠ B := hn
  have hll := hu.shape.1
  have H := hide h
  have HU := hide hu
  have hlen : (x :: xs).length = xs.length + 1 := rfl
  rw [hlen] at c1 hcap hll
  clear h hu hn hlen
  cases xs with
  | nil =>
    have hnl : ([] : List Int).length = 0 := rfl
    rw [hnl] at c1 hcap hll
    rw [Nat.zero_add] at c1 hcap hll
    clear hnl
    by_cases hc1 : cap = 1
    · subst hc1
      have h1 := set_dr H.out 1 (.slice (some ⟨b, off, none⟩) 0 0)
      have h2 := set_dr h1 1 (.slice none 0 0)
      have h3 := set_dr h2 0 (.func (.func 23) #[] #[])
      have H3 := hide h3
      obtain ⟨d0, d1, d2, d3, g0, g1, g2, g3⟩ := cell_dr h1
      obtain ⟨m0, m1, m2, m3, n0, n1, n2, n3⟩ := cell_dr h2
      clear h1 h2 h3
      go_enter Try.func25, Try.ntmps25
      go_wp2_with fail
      go_ret
      exact ⟨rfl, grown_trans (grown_trans (grown_set _ _ _ _) (grown_set _ _ _ _)) (grown_set _ _ _ _), 23, .slice none 0 0, H3.out, .inl ⟨trivial, rfl⟩⟩
    · have hc1z : ¬ (cap : Int) = 1 := by omega
      have h1 := set_dr H.out 1 (.slice (some ⟨b, off + 1, none⟩) 0 (cap - 1))
      have h2 := set_dr h1 1 (.slice none 0 0)
      have h3 := set_dr h2 0 (.func (.func 23) #[] #[])
      have H3 := hide h3
      obtain ⟨d0, d1, d2, d3, g0, g1, g2, g3⟩ := cell_dr h1
      obtain ⟨m0, m1, m2, m3, n0, n1, n2, n3⟩ := cell_dr h2
      clear h1 h2 h3
      go_enter Try.func25, Try.ntmps25
      go_wp2_with fail
      go_ret
      exact ⟨rfl, grown_trans (grown_trans (grown_set _ _ _ _) (grown_set _ _ _ _)) (grown_set _ _ _ _), 23, .slice none 0 0, H3.out, .inl ⟨trivial, rfl⟩⟩
  | cons y ys =>
    have hnl : (y :: ys).length = ys.length + 1 := rfl
    rw [hnl] at c1 hcap hll
    clear hnl
    have ht := uints_tail HU.out
    have ht2 := uints_grown ht rfl hbn (grown_set w B 1 (.slice (some ⟨b, off + 1, none⟩) (ys.length + 1) (cap - 1)))
    have HT := hide ht2
    have h1 := set_dr H.out 1 (.slice (some ⟨b, off + 1, none⟩) (ys.length + 1) (cap - 1))
    have H1 := hide h1
    obtain ⟨d0, d1, d2, d3, g0, g1, g2, g3⟩ := cell_dr h1
    obtain ⟨n, hnn⟩ : ∃ n, ys.length = n := ⟨_, rfl⟩
    have hce : ¬ cap = 1 := by omega
    have hcz : ¬ (cap : Int) = 1 := by omega
    have hlz : ((n : Int) + 1 == 0) = false := by simp; omega
    rw [hnn] at c1 hcap hll d0 d1 d2 d3 g0 g1 g2 g3
    have HNN := hide hnn
    clear h1 ht ht2 hnn
    go_enter Try.func25, Try.ntmps25
    go_wp2_with fail
    obtain rfl := HNN.out
    go_ret
    exact ⟨rfl, grown_set _ _ _ _, fs, .slice (some ⟨b, off + 1, none⟩) (ys.length + 1) (cap - 1), H1.out, .inr ⟨by simp, rfl, ⟨b, off + 1, none⟩, cap - 1, rfl, HT.out, hbn⟩⟩
/-- the next one -/
theorem next_any (w : World) (B : Nat) (said : List Int) (used : Nat) (h : DrawsAt w B said used) (hu : used ≤ 1000000) :
    Calls Try.prog 84 #[.pointer (some ⟨B, 0, none⟩)] w fun e w' => ∃ z, e = .returned (.int .u64 z) ∧ U64 z ∧ (∀ x xs, said = x :: xs → z = x) ∧ DrawsAt w' B said.tail (used + 1) ∧ w.grownBy w' (some B) := by
  obtain ⟨f, sv, seed, hb, hs, hsd, hcase⟩ := h
  obtain ⟨c0, c1, c2, c3, f0, f1, f2, f3⟩ := cell_dr hb
  have h1 := set_dr hb 3 (.int .i64 ((used : Int) + 1))
  obtain ⟨d0, d1, d2, d3, g0, g1, g2, g3⟩ := cell_dr h1
  have hg1 := grown_set w B 3 (.int .i64 ((used : Int) + 1))
  have hu' : (used : Int) ≤ 1000000 := by omega
  have hug : ∀ (ad : Addr) (n cap : Nat) (xs : List Int), ad.block ≠ B → UInts w (.slice (some ad) n cap) xs → UInts (w.setCell ⟨B, 3, none⟩ (.int .i64 ((used : Int) + 1))) (.slice (some ad) n cap) xs := fun ad n cap xs hn hx => uints_grown hx rfl hn hg1
  have HUG := hide hug
  have H1 := hide h1
  have HG := hide hg1
  have HSD := hide hsd
  have HS := hide hs
  clear hb hg1 hsd hug hs
  rcases hcase with ⟨rfl, rfl⟩ | ⟨hne, rfl, ad, cap, rfl, hx, hn⟩
  · have eg : ∀ args w, (callFunc 23 args).run Try.prog w = .ok (.enter 23 args) w := enters_of Try.func23 (by kernel_rfl) rfl
    have hcall := fromSeed_any _ B _ sv seed _ H1.out
    have HCALL := hide hcall
    clear hcall h1
    go_enter Try.func84, Try.ntmps84
    go_wp2_with (go_at_fn 23; refine HCALL.out.mono ?_; rintro e w' ⟨z, s, rfl, hz, hs, rfl⟩)
    go_ret
    have h2 := set_dr H1.out 2 (.int .u64 s)
    exact ⟨z, rfl, hz, (fun x xs e => by cases e), ⟨_, sv, s, h2, hs, by simp, .inl ⟨rfl, rfl⟩⟩, grown_trans HG.out (grown_set _ _ _ _)⟩
  · cases said with
    | nil => exact absurd rfl hne
    | cons x xs =>
      have eg : ∀ args w, (callFunc 25 args).run Try.prog w = .ok (.enter 25 args) w := enters_of Try.func25 (by kernel_rfl) rfl
      have hcall := fromSaid_any _ B _ seed _ x xs ad cap H1.out (HUG.out ad _ cap _ hn hx) hn
      have HCALL := hide hcall
      clear hcall h1 hx
      go_enter Try.func84, Try.ntmps84
      go_wp2_with (go_at_fn 25; refine HCALL.out.mono ?_; rintro e w' ⟨rfl, hg2, g, sv, hb2, hc2⟩)
      go_ret
      refine ⟨x, rfl, HSD.out x (by simp), (fun y ys e => by cases e; rfl), ⟨g, sv, seed, hb2, HS.out, (fun y hy => HSD.out y (by simp at hy ⊢; exact .inr hy)), ?_⟩, grown_trans HG.out hg2⟩
      rcases hc2 with ⟨h1, h2⟩ | ⟨h1, h2, ad', cap', h3, h4, h5⟩
      · exact .inl ⟨h1, h2⟩
      · exact .inr ⟨h1, h2, ad', cap', h3, h4, h5⟩
set_option maxRecDepth 100000 in
set_option maxHeartbeats 1000000 in
theorem below_any (w : World) (B : Nat) (said : List Int) (used : Nat) (n : Int) (h : DrawsAt w B said used) (hu : used ≤ 1000000) (hn : 1 ≤ n ∧ n ≤ 1000000) :
    Calls Try.prog 59 #[.pointer (some ⟨B, 0, none⟩), .int .i64 n] w fun e w' => ∃ r, e = .returned (.int .i64 r) ∧ (0 ≤ r ∧ r < n) ∧ (∀ x xs, said = x :: xs → r = x % n) ∧ DrawsAt w' B said.tail (used + 1) ∧ w.grownBy w' (some B) := by
  have hnx := next_any w B said used h hu
  have HN := hide hnx
  have hw : IntKind.u64.wrap n = n := by
    have : IntKind.u64.wrap n = n % 18446744073709551616 := by simp [IntKind.wrap, IntKind.signed, IntKind.bits]
    rw [this]; omega
  clear h hnx
  go_enter Try.func59, Try.ntmps59
  go_wp2_with fail
  refine HN.out.mono ?_
  rintro e w1 ⟨z, rfl, hz, hzx, hd, hg⟩
  have h1 : z.tmod n = z % n := Int.tmod_eq_emod_of_nonneg hz.1
  have h2 := Int.emod_nonneg z (show n ≠ 0 by omega)
  have h3 := Int.emod_lt_of_pos z (show 0 < n by omega)
  have hzx' : ∀ x xs, said = x :: xs → z % n = x % n := fun x xs e => by rw [hzx x xs e]
  obtain ⟨r, hr⟩ : ∃ r, z % n = r := ⟨_, rfl⟩
  rw [hr] at h1 h2 h3 hzx'
  have hw2 : IntKind.i64.wrap r = r := by simp [IntKind.wrap, IntKind.signed, IntKind.bits]; omega
  have HX := hide hzx'
  clear hzx hzx' hr
  go_wp2_with fail
  go_ret
  exact ⟨r, rfl, ⟨h2, h3⟩, HX.out, hd, hg⟩
set_option maxRecDepth 100000 in
set_option maxHeartbeats 1000000 in
theorem two_any (w : World) (B : Nat) (said : List Int) (used : Nat) (n : Int) (h : DrawsAt w B said used) (hu : used ≤ 999999) (hn : 2 ≤ n ∧ n ≤ 1000000) :
    Calls Try.prog 48 #[.pointer (some ⟨B, 0, none⟩), .int .i64 n] w fun e w' => ∃ i j, e = .returned (.tuple #[.int .i64 i, .int .i64 j]) ∧ (0 ≤ i ∧ i < n) ∧ (0 ≤ j ∧ j < n) ∧ i ≠ j ∧ (∀ a b xs, said = a :: b :: xs → i = a % n ∧ j = if a % n ≤ b % (n - 1) then b % (n - 1) + 1 else b % (n - 1)) ∧ DrawsAt w' B said.tail.tail (used + 2) ∧ w.grownBy w' (some B) := by
  have HB := hide (below_any w B said used n h (by omega) (by omega))
  clear h
  go_enter Try.func48, Try.ntmps48
  go_wp2_with fail
  refine HB.out.mono ?_
  rintro e w1 ⟨i, rfl, hi, hix, hd, hg⟩
  have HB2 := hide (below_any w1 B said.tail (used + 1) (n - 1) hd (by omega) (by omega))
  have HIX := hide hix
  clear hd hix
  go_wp2_with fail
  refine HB2.out.mono ?_
  rintro e w2 ⟨j, rfl, hj, hjx, hd2, hg2⟩
  have HJX := hide hjx
  clear hjx
  by_cases hij : i ≤ j
  · go_wp2_with fail
    go_ret2
    refine ⟨i, j + 1, rfl, hi, by omega, by omega, fun a b xs e => ?_, hd2, grown_trans hg hg2⟩
    have e1 := HIX.out a (b :: xs) e
    have e2 := HJX.out b xs (by rw [e]; rfl)
    rw [← e1, ← e2, if_pos (by omega)]; exact ⟨rfl, rfl⟩
  · go_wp2_with fail
    go_ret2
    refine ⟨i, j, rfl, hi, by omega, by omega, fun a b xs e => ?_, hd2, grown_trans hg hg2⟩
    have e1 := HIX.out a (b :: xs) e
    have e2 := HJX.out b xs (by rw [e]; rfl)
    rw [← e1, ← e2, if_neg (by omega)]; exact ⟨rfl, rfl⟩
end Go.Proofs.Ytoncfogihiapiaa
