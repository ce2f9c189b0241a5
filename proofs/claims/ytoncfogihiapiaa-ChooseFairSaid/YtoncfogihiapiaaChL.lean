/- choose.Pick by ring. -/
import Derived.Test.YtoncfogihiapiaaChK
namespace Go.Proofs.Ytoncfogihiapiaa
open Go.ChangeShapes Go.WideShapes Go.ChangeAt Go.RowKit Go.Maps Go.Shelf
set_option maxRecDepth 100000 in
set_option maxHeartbeats 4000000 in
theorem pick2_any (w : World) (S : List Int) (a : Option Addr) (cap : Nat) (a2 : Option Addr) (n2 cap2 : Nat) (Br Bd : Nat) (key : Int) (p0 : Nat) (I : List Int) (hn : 0 < S.length)
    (hr : RingAt w (.pointer (some ⟨Br, 0, none⟩)) (ends I).length (pointsOf p0 I)) (hp0 : 0 < p0) (hI : ∀ x ∈ I, I64 x) (hs : Ints w (.slice a S.length cap) S) :
    Calls Try.prog 16 #[.int .i64 2, .pointer (some ⟨Br, 0, none⟩), .slice a S.length cap, .int .u64 key, .slice a2 n2 cap2, .pointer (some ⟨Bd, 0, none⟩)] w fun e w' => e = .returned (.tuple #[.int .i64 (((cnt (rowOf key (pointsOf p0 I)) S).head?).getD 0), .bool ((cnt (rowOf key (pointsOf p0 I)) S).head?).isSome]) ∧ Ext w w' := by
  have hls := hs.shape.1
  obtain ⟨n, hnn⟩ : ∃ n, S.length = n := ⟨_, rfl⟩
  have HNN := hide hnn
  rw [hnn] at hn hs ⊢
  have hnz : ((n : Int) == 0) = false := beq_eq_false_iff_ne.2 (by omega)
  have hmm := @run_makeMap Try.prog
  have HR := hide hr
  have HSS := hide hs
  clear hr hs hnn
  obtain ⟨N, hN⟩ : ∃ N, w.heap.size = N := ⟨_, rfl⟩
  obtain ⟨R, hR1, hR2, hR3, hRn, _, hS2, _⟩ := ways_read (.func (.func 26) #[] #[.pointer (some ⟨w.heap.size + 1, 0, none⟩), .pointer (some ⟨w.heap.size + 1 + 1 + 1, 0, none⟩), .pointer (some ⟨w.heap.size + 1 + 1 + 1 + 1, 0, none⟩)])
    (.func (.func 28) #[] #[.pointer (some ⟨w.heap.size, 0, none⟩), .pointer (some ⟨w.heap.size + 1 + 1, 0, none⟩), .pointer (some ⟨w.heap.size + 1, 0, none⟩)])
    (.func (.func 31) #[] #[.pointer (some ⟨w.heap.size, 0, none⟩), .pointer (some ⟨w.heap.size + 1 + 1, 0, none⟩), .pointer (some ⟨w.heap.size + 1, 0, none⟩), .pointer (some ⟨w.heap.size + 1 + 1 + 1, 0, none⟩)])
    (fn_ne _ _ _ _ _ _ (by decide)) (fn_ne _ _ _ _ _ _ (by decide)) (fn_ne _ _ _ _ _ _ (by decide)) (fun e => by cases e) (fun e => by cases e) (fun e => by cases e)
  have HS2 := hide hS2
  clear hS2 hN
  have hown0 := World.ownsMap_made ((((((w.alloc (.cells #[.pointer (some ⟨Br, 0, none⟩)] 37)).alloc (.cells #[.slice a n cap] 28)).alloc (.cells #[.int .u64 key] 29)).alloc (.cells #[.slice a2 n2 cap2] 22)).alloc (.cells #[.pointer (some ⟨Bd, 0, none⟩)] 32))) Try.prog 3 R
  have hsz : ((((((w.alloc (.cells #[.pointer (some ⟨Br, 0, none⟩)] 37)).alloc (.cells #[.slice a n cap] 28)).alloc (.cells #[.int .u64 key] 29)).alloc (.cells #[.slice a2 n2 cap2] 22)).alloc (.cells #[.pointer (some ⟨Bd, 0, none⟩)] 32))).heap.size = w.heap.size + 1 + 1 + 1 + 1 + 1 := by simp
  rw [hsz] at hown0
  have e6 : Ext w (((((((w.alloc (.cells #[.pointer (some ⟨Br, 0, none⟩)] 37)).alloc (.cells #[.slice a n cap] 28)).alloc (.cells #[.int .u64 key] 29)).alloc (.cells #[.slice a2 n2 cap2] 22)).alloc (.cells #[.pointer (some ⟨Bd, 0, none⟩)] 32))).alloc (.map #[] 0)) := by
    refine Below.alloc (Below.alloc (Below.alloc (Below.alloc (Below.alloc (Below.alloc (Below.refl _ w) (Nat.le_refl _) _) ?_ _) ?_ _) ?_ _) ?_ _) ?_ _ <;> simp <;> omega
  have k8 : (((((((w.alloc (.cells #[.pointer (some ⟨Br, 0, none⟩)] 37)).alloc (.cells #[.slice a n cap] 28)).alloc (.cells #[.int .u64 key] 29)).alloc (.cells #[.slice a2 n2 cap2] 22)).alloc (.cells #[.pointer (some ⟨Bd, 0, none⟩)] 32))).alloc (.map #[] 0)).cell? ⟨w.heap.size + 1, 0, none⟩ = some (.slice a n cap) := by go_simp
  have k9 : (((((((w.alloc (.cells #[.pointer (some ⟨Br, 0, none⟩)] 37)).alloc (.cells #[.slice a n cap] 28)).alloc (.cells #[.int .u64 key] 29)).alloc (.cells #[.slice a2 n2 cap2] 22)).alloc (.cells #[.pointer (some ⟨Bd, 0, none⟩)] 32))).alloc (.map #[] 0)).cell? ⟨w.heap.size + 1 + 1, 0, none⟩ = some (.int .u64 key) := by go_simp
  have k7 : (((((((w.alloc (.cells #[.pointer (some ⟨Br, 0, none⟩)] 37)).alloc (.cells #[.slice a n cap] 28)).alloc (.cells #[.int .u64 key] 29)).alloc (.cells #[.slice a2 n2 cap2] 22)).alloc (.cells #[.pointer (some ⟨Bd, 0, none⟩)] 32))).alloc (.map #[] 0)).cell? ⟨w.heap.size, 0, none⟩ = some (.pointer (some ⟨Br, 0, none⟩)) := by go_simp
  have ks : (((((((w.alloc (.cells #[.pointer (some ⟨Br, 0, none⟩)] 37)).alloc (.cells #[.slice a n cap] 28)).alloc (.cells #[.int .u64 key] 29)).alloc (.cells #[.slice a2 n2 cap2] 22)).alloc (.cells #[.pointer (some ⟨Bd, 0, none⟩)] 32))).alloc (.map #[] 0)).heap.size = w.heap.size + 1 + 1 + 1 + 1 + 1 + 1 := by simp
  obtain ⟨w1, hrun1, hown1, hg1⟩ := hown0.update lawI Try.underlying61 (by decide) (keyI (z := 1) (by unfold I64; omega)) hR1
  obtain ⟨w2, hrun2, hown2, hg2⟩ := hown1.update lawI Try.underlying61 (by decide) (keyI (z := 2) (by unfold I64; omega)) hR2
  obtain ⟨w3, hrun3, hown3, hg3⟩ := hown2.update lawI Try.underlying61 (by decide) (keyI (z := 3) (by unfold I64; omega)) hR3
  obtain ⟨v, ps, hlook, hv⟩ := hown3.look_ok lawI Try.underlying61 (zeroF _) (zd := .lit (.int .i64 0)) (zp := []) hRn (keyI (z := 2) (by unfold I64; omega))
  have hh : Maps.has ((((DataW.map [] : DataW Nat).put (.int .i64 1) (.lit (.int .i64 1))).put (.int .i64 2) (.lit (.int .i64 2))).put (.int .i64 3) (.lit (.int .i64 3))) (.int .i64 2) = true := by rfl
  rw [hh] at hlook
  have hv1 := HS2.out v ps hv
  subst hv1
  have hgg := grown_trans (grown_trans hg1 hg2) hg3
  have m8 := (cell_grown hgg (p := ⟨w.heap.size + 1, 0, none⟩) (by rw [ks]; simp) (by simp)).trans k8
  have m9 := (cell_grown hgg (p := ⟨w.heap.size + 1 + 1, 0, none⟩) (by rw [ks]; simp) (by simp)).trans k9
  have m7 := (cell_grown hgg (p := ⟨w.heap.size, 0, none⟩) (by rw [ks]; simp; omega) (by simp; omega)).trans k7
  have hE : Ext w w3 := Below.grown e6 hgg (by rw [ks]; omega) (fun r hr => by cases hr; omega)
  have hgs := hgg.size
  rw [ks] at hgs
  have hss := HSS.out.ext hE
  rw [← HNN.out] at m8 hss
  have hcl := clos2_any w3 _ _ _ Br key S a cap p0 I m7 m9 m8 (by omega) (by omega) (by omega) (HR.out.ext hE) hp0 hI hss
  have HE := hide hE
  have HCL := hide hcl
  clear hown0 hown1 hown2 hown3 hg1 hg2 hg3 hgg k8 k9 k7 m8 m9 m7 hv hE hcl ks e6 hsz hR1 hR2 hR3 hRn hgs hss
  have eg : ∀ args w, (callFunc 28 args).run Try.prog w = .ok (.enter 28 args) w := enters_of Try.func28 (by kernel_rfl) rfl
  go_enter Try.func16, Try.ntmps16
  go_wp2_with fail
  refine HCL.out.mono ?_
  rintro e w9 ⟨rfl, E9⟩
  go_wp2_with fail
  go_ret2
  exact ⟨rfl, HE.out.trans E9⟩
end Go.Proofs.Ytoncfogihiapiaa
