/- choose.Pick by two. -/
import Derived.Test.YtoncfogihiapiaaChE
namespace Go.Proofs.Ytoncfogihiapiaa
open Go.ChangeShapes Go.WideShapes Go.ChangeAt Go.RowKit Go.Maps Go.Shelf
theorem clos1_any (W : World) (b8 b10 b11 : Nat) (S L d : Value) (Ψ : Int → World → Prop) (a : Option Addr) (n cap : Nat) (a2 : Option Addr) (n2 cap2 : Nat) (Bd : Nat) (hS : S = .slice a n cap) (hL : L = .slice a2 n2 cap2) (hd : d = .pointer (some ⟨Bd, 0, none⟩))
    (c8 : W.cell? ⟨b8, 0, none⟩ = some S) (c10 : W.cell? ⟨b10, 0, none⟩ = some L) (c11 : W.cell? ⟨b11, 0, none⟩ = some d)
    (hb : Calls Try.prog 27 #[S, L, d] W fun e w' => ∃ x, e = .returned (.int .i64 x) ∧ Ψ x w') :
    Calls Try.prog 26 #[.pointer (some ⟨b8, 0, none⟩), .pointer (some ⟨b10, 0, none⟩), .pointer (some ⟨b11, 0, none⟩)] W fun e w' => ∃ x, e = .returned (.tuple #[.int .i64 x, .bool true]) ∧ Ψ x w' := by
  subst hS hL hd
  have HB := hide hb
  clear hb
  go_enter Try.func26, Try.ntmps26
  go_wp2_with fail
  refine HB.out.mono ?_
  rintro e w1 ⟨x, rfl, hx⟩
  go_wp2_with fail
  go_ret2
  exact ⟨x, rfl, hx⟩
theorem cell_grown {w w' : World} {b : Nat} {p : Addr} (h : w.grownBy w' (some b)) (hp : p.block < w.heap.size) (hn : p.block ≠ b) : w'.cell? p = w.cell? p := by
  have := h.block p.block hp (fun e => hn (by cases e; rfl))
  unfold World.cell?
  rw [this]
set_option maxRecDepth 100000 in
set_option maxHeartbeats 4000000 in
theorem pick1_any (w : World) (a : Option Addr) (n cap : Nat) (a2 : Option Addr) (n2 cap2 : Nat) (Br Bd : Nat) (key : Int) (Ψ : Int → World → Prop) (hn : 0 < n)
    (hb : ∀ W, Ext w W → Calls Try.prog 27 #[.slice a n cap, .slice a2 n2 cap2, .pointer (some ⟨Bd, 0, none⟩)] W fun e w' => ∃ x, e = .returned (.int .i64 x) ∧ Ψ x w') :
    Calls Try.prog 16 #[.int .i64 1, .pointer (some ⟨Br, 0, none⟩), .slice a n cap, .int .u64 key, .slice a2 n2 cap2, .pointer (some ⟨Bd, 0, none⟩)] w fun e w' => ∃ x, e = .returned (.tuple #[.int .i64 x, .bool true]) ∧ Ψ x w' := by
  have hnz : ((n : Int) == 0) = false := beq_eq_false_iff_ne.2 (by omega)
  have hmm := @run_makeMap Try.prog
  have HB := hide hb
  clear hb
  obtain ⟨N, hN⟩ : ∃ N, w.heap.size = N := ⟨_, rfl⟩
  obtain ⟨R, hR1, hR2, hR3, hRn, hS1, _⟩ := ways_read (.func (.func 26) #[] #[.pointer (some ⟨w.heap.size + 1, 0, none⟩), .pointer (some ⟨w.heap.size + 1 + 1 + 1, 0, none⟩), .pointer (some ⟨w.heap.size + 1 + 1 + 1 + 1, 0, none⟩)])
    (.func (.func 28) #[] #[.pointer (some ⟨w.heap.size, 0, none⟩), .pointer (some ⟨w.heap.size + 1 + 1, 0, none⟩), .pointer (some ⟨w.heap.size + 1, 0, none⟩)])
    (.func (.func 31) #[] #[.pointer (some ⟨w.heap.size, 0, none⟩), .pointer (some ⟨w.heap.size + 1 + 1, 0, none⟩), .pointer (some ⟨w.heap.size + 1, 0, none⟩), .pointer (some ⟨w.heap.size + 1 + 1 + 1, 0, none⟩)])
    (fn_ne _ _ _ _ _ _ (by decide)) (fn_ne _ _ _ _ _ _ (by decide)) (fn_ne _ _ _ _ _ _ (by decide)) (fun e => by cases e) (fun e => by cases e) (fun e => by cases e)
  have HS1 := hide hS1
  clear hS1 hN
  have hown0 := World.ownsMap_made ((((((w.alloc (.cells #[.pointer (some ⟨Br, 0, none⟩)] 37)).alloc (.cells #[.slice a n cap] 28)).alloc (.cells #[.int .u64 key] 29)).alloc (.cells #[.slice a2 n2 cap2] 22)).alloc (.cells #[.pointer (some ⟨Bd, 0, none⟩)] 32))) Try.prog 3 R
  have hsz : ((((((w.alloc (.cells #[.pointer (some ⟨Br, 0, none⟩)] 37)).alloc (.cells #[.slice a n cap] 28)).alloc (.cells #[.int .u64 key] 29)).alloc (.cells #[.slice a2 n2 cap2] 22)).alloc (.cells #[.pointer (some ⟨Bd, 0, none⟩)] 32))).heap.size = w.heap.size + 1 + 1 + 1 + 1 + 1 := by simp
  rw [hsz] at hown0
  have e6 : Ext w (((((((w.alloc (.cells #[.pointer (some ⟨Br, 0, none⟩)] 37)).alloc (.cells #[.slice a n cap] 28)).alloc (.cells #[.int .u64 key] 29)).alloc (.cells #[.slice a2 n2 cap2] 22)).alloc (.cells #[.pointer (some ⟨Bd, 0, none⟩)] 32))).alloc (.map #[] 0)) := by
    refine Below.alloc (Below.alloc (Below.alloc (Below.alloc (Below.alloc (Below.alloc (Below.refl _ w) (Nat.le_refl _) _) ?_ _) ?_ _) ?_ _) ?_ _) ?_ _ <;> simp <;> omega
  have k8 : (((((((w.alloc (.cells #[.pointer (some ⟨Br, 0, none⟩)] 37)).alloc (.cells #[.slice a n cap] 28)).alloc (.cells #[.int .u64 key] 29)).alloc (.cells #[.slice a2 n2 cap2] 22)).alloc (.cells #[.pointer (some ⟨Bd, 0, none⟩)] 32))).alloc (.map #[] 0)).cell? ⟨w.heap.size + 1, 0, none⟩ = some (.slice a n cap) := by go_simp
  have k10 : (((((((w.alloc (.cells #[.pointer (some ⟨Br, 0, none⟩)] 37)).alloc (.cells #[.slice a n cap] 28)).alloc (.cells #[.int .u64 key] 29)).alloc (.cells #[.slice a2 n2 cap2] 22)).alloc (.cells #[.pointer (some ⟨Bd, 0, none⟩)] 32))).alloc (.map #[] 0)).cell? ⟨w.heap.size + 1 + 1 + 1, 0, none⟩ = some (.slice a2 n2 cap2) := by go_simp
  have k11 : (((((((w.alloc (.cells #[.pointer (some ⟨Br, 0, none⟩)] 37)).alloc (.cells #[.slice a n cap] 28)).alloc (.cells #[.int .u64 key] 29)).alloc (.cells #[.slice a2 n2 cap2] 22)).alloc (.cells #[.pointer (some ⟨Bd, 0, none⟩)] 32))).alloc (.map #[] 0)).cell? ⟨w.heap.size + 1 + 1 + 1 + 1, 0, none⟩ = some (.pointer (some ⟨Bd, 0, none⟩)) := by go_simp
  have ks : (((((((w.alloc (.cells #[.pointer (some ⟨Br, 0, none⟩)] 37)).alloc (.cells #[.slice a n cap] 28)).alloc (.cells #[.int .u64 key] 29)).alloc (.cells #[.slice a2 n2 cap2] 22)).alloc (.cells #[.pointer (some ⟨Bd, 0, none⟩)] 32))).alloc (.map #[] 0)).heap.size = w.heap.size + 1 + 1 + 1 + 1 + 1 + 1 := by simp
  obtain ⟨w1, hrun1, hown1, hg1⟩ := hown0.update lawI Try.underlying61 (by decide) (keyI (z := 1) (by unfold I64; omega)) hR1
  obtain ⟨w2, hrun2, hown2, hg2⟩ := hown1.update lawI Try.underlying61 (by decide) (keyI (z := 2) (by unfold I64; omega)) hR2
  obtain ⟨w3, hrun3, hown3, hg3⟩ := hown2.update lawI Try.underlying61 (by decide) (keyI (z := 3) (by unfold I64; omega)) hR3
  obtain ⟨v, ps, hlook, hv⟩ := hown3.look_ok lawI Try.underlying61 (zeroF _) (zd := .lit (.int .i64 0)) (zp := []) hRn (keyI (z := 1) (by unfold I64; omega))
  have hh : Maps.has ((((DataW.map [] : DataW Nat).put (.int .i64 1) (.lit (.int .i64 1))).put (.int .i64 2) (.lit (.int .i64 2))).put (.int .i64 3) (.lit (.int .i64 3))) (.int .i64 1) = true := by rfl
  rw [hh] at hlook
  have hv1 := HS1.out v ps hv
  subst hv1
  have hgg := grown_trans (grown_trans hg1 hg2) hg3
  have m8 := (cell_grown hgg (p := ⟨w.heap.size + 1, 0, none⟩) (by rw [ks]; simp) (by simp)).trans k8
  have m10 := (cell_grown hgg (p := ⟨w.heap.size + 1 + 1 + 1, 0, none⟩) (by rw [ks]; simp) (by simp)).trans k10
  have m11 := (cell_grown hgg (p := ⟨w.heap.size + 1 + 1 + 1 + 1, 0, none⟩) (by rw [ks]; simp) (by simp)).trans k11
  have hE : Ext w w3 := Below.grown e6 hgg (by rw [ks]; omega) (fun r hr => by cases hr; omega)
  have hcl := clos1_any w3 _ _ _ _ _ _ Ψ a n cap a2 n2 cap2 Bd rfl rfl rfl m8 m10 m11 (HB.out w3 hE)
  have HCL := hide hcl
  clear hown0 hown1 hown2 hown3 hg1 hg2 hg3 hgg k8 k10 k11 m8 m10 m11 hv hE hcl ks e6 hsz hR1 hR2 hR3 hRn
  have eg : ∀ args w, (callFunc 26 args).run Try.prog w = .ok (.enter 26 args) w := enters_of Try.func26 (by kernel_rfl) rfl
  go_enter Try.func16, Try.ntmps16
  go_wp2_with fail
  refine HCL.out.mono ?_
  rintro e w9 ⟨x, rfl, hx⟩
  go_wp2_with fail
  go_ret2
  exact ⟨x, rfl, hx⟩
end Go.Proofs.Ytoncfogihiapiaa
