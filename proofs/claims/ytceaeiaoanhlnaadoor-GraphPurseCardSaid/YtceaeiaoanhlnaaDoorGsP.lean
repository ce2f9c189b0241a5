import Derived.Test.YtceaeiaoanhlnaaDoorGkV
import Derived.Test.YtceaeiaoanhlnaaDoorGkH
import Derived.Test.YtceaeiaoanhlnaaDoorGpH
import Derived.Test.YtceaeiaoanhlnaaDoorGpI
import Derived.Test.YtceaeiaoanhlnaaDoorZrw
namespace Go.Proofs.YtceaeiaoanhlnaaDoor
open Go.ChangeShapes Go.WideShapes Go.ChangeAt Go.RowKit Go.Lib Go.Shelf Go.Maps
/-! ## plain -/
theorem purse_right {c : ConfD} {n : Int} (h : chkC c = 0) (hn : 0 ≤ n ∧ n ≤ 64) : chkC { c with purse := n } = 0 := by
 obtain ⟨h1, h2, h3, h4, h5, h6, h7⟩ := chkC_ends h
 have h8 : ¬ c.T.all rateB = false ∧ ¬ watchB c = false ∧ ¬ numB c = false := by
  unfold chkC at h
  rw [if_neg (by omega), if_neg (by rw [h4]; decide), if_neg (by rw [h5]; decide), if_neg (by omega), if_neg (by rw [h7]; decide)] at h
  split at h
  ·cases h
  ·split at h
   ·cases h
   ·split at h
    ·cases h
    ·exact ⟨by assumption, by assumption, by assumption⟩
 have e5 : numB { c with purse := n } = true := by
  have := h8.2.2
  unfold numB at this ⊢
  simp only [Bool.not_eq_false, Bool.and_eq_true] at this ⊢
  obtain ⟨⟨⟨⟨⟨⟨⟨⟨b1, b2⟩, b3⟩, b4⟩, b5⟩, b6⟩, b7⟩, b8⟩, b9⟩ := this
  exact ⟨⟨⟨⟨⟨⟨⟨⟨b1, b2⟩, b3⟩, b4⟩, b5⟩, b6⟩, inB_in hn⟩, b8⟩, b9⟩
 unfold chkC
 show (if 10 < c.S.length ∨ 40 < c.E.length ∨ 4 < c.T.length then 2 else if allAt svcB [] c.S = false then 13 else if allAt (fun a e => endB a c.S e) [] c.E = false then 14 else if nerr c.R c.T.length ≠ 0 then nerr c.R c.T.length else if c.R.all (leadB c.S) = false then 13 else if c.T.all rateB = false then 15 else if watchB c = false then 8 else if numB { c with purse := n } = false then 8 else 0) = 0
 rw [if_neg (by omega), if_neg (by rw [h4]; decide), if_neg (by rw [h5]; decide), if_neg (by omega), if_neg (by rw [h7]; decide), if_neg h8.1, if_neg h8.2.1, if_neg (by rw [e5]; decide)]
theorem load_core (c : ConfD) (id : Int) : loadC c.core id = loadC c id := by
 have h1 : mirB c.core.R id = mirB c.R id := by
  show (c.R.map RuleD.core).any _ = _
  rw [List.any_map]
  rfl
 have h2 : ∀ f, mostS c.core.S f = mostS c.S f := fun f => by
  show great ((c.S.map SvcD.core).map SvcD.id) f = great (c.S.map SvcD.id) f
  rw [List.map_map]
  rfl
 unfold loadC
 rw [h1, h2, (like_core c).kids]
 rfl
theorem load_same {c d : ConfD} (e : d.core = c.core) (id : Int) : loadC d id = loadC c id := by
 rw [← load_core d, e, load_core]
theorem kidM_eq {c : ConfD} {p : ByteArray} {kv : Value} {s0 : SvcD} {S1 : List SvcD} (h : c.S = s0 :: S1) : kidMore c p kv = { c with S := { s0 with kv := kv, K := s0.K ++ [p] } :: S1 } := by
 unfold kidMore
 rw [h]
theorem all_ahead : ∀ (l a a' : List SvcD), (∀ id, thereB a id = thereB a' id) → allAt svcB a l = allAt svcB a' l
 | [], _, _, _ => rfl
 | x :: l, a, a', h => by
  have e1 : svcB a x = svcB a' x := by
   unfold svcB
   rw [h]
  have e2 := all_ahead l (a ++ [x]) (a' ++ [x]) fun id => by
   have := h id
   unfold thereB at this ⊢
   rw [List.any_append, List.any_append, this]
  show (svcB a x && allAt svcB (a ++ [x]) l) = (svcB a' x && allAt svcB (a' ++ [x]) l)
  rw [e1, e2]
theorem kid_right {c : ConfD} {p : ByteArray} {kv : Value} {s0 : SvcD} {S1 : List SvcD} (h : chkC c = 0) (hS : c.S = s0 :: S1) (hk : s0.K.length ≤ 3) (hp : isPath (bl p) = true) : chkC (kidMore c p kv) = 0 := by
 rw [kidM_eq hS]
 obtain ⟨h1, h2, h3, h4, h5, h6, h7⟩ := chkC_ends h
 have h8 : ¬ c.T.all rateB = false ∧ ¬ watchB c = false ∧ ¬ numB c = false := by
  unfold chkC at h
  rw [if_neg (by omega), if_neg (by rw [h4]; decide), if_neg (by rw [h5]; decide), if_neg (by omega), if_neg (by rw [h7]; decide)] at h
  split at h
  ·cases h
  ·split at h
   ·cases h
   ·split at h
    ·cases h
    ·exact ⟨by assumption, by assumption, by assumption⟩
 have ht : ∀ id, thereB ({ s0 with kv := kv, K := s0.K ++ [p] } :: S1) id = thereB c.S id := fun id => by
  rw [hS]
  rfl
 have e1 : allAt svcB [] ({ s0 with kv := kv, K := s0.K ++ [p] } :: S1) = true := by
  rw [hS] at h4
  have h9 : (svcB [] s0 && allAt svcB [s0] S1) = true := h4
  show (svcB [] { s0 with kv := kv, K := s0.K ++ [p] } && allAt svcB [{ s0 with kv := kv, K := s0.K ++ [p] }] S1) = true
  rw [all_ahead S1 [{ s0 with kv := kv, K := s0.K ++ [p] }] [s0] (fun id => rfl)]
  rw [Bool.and_eq_true] at h9 ⊢
  refine ⟨?_, h9.2⟩
  have := h9.1
  unfold svcB at this ⊢
  simp only [Bool.and_eq_true] at this ⊢
  obtain ⟨⟨⟨⟨⟨⟨⟨⟨a1, a2⟩, a3⟩, a4⟩, a5⟩, a6⟩, a7⟩, a8⟩, a9⟩ := this
  refine ⟨⟨⟨⟨⟨⟨⟨⟨a1, a2⟩, ?_⟩, ?_⟩, a5⟩, a6⟩, a7⟩, a8⟩, a9⟩
  ·rw [List.length_append, List.length_singleton]
   exact decide_eq_true (by omega)
  ·rw [List.all_append, a4]
   simp [hp]
 generalize hg : ({ s0 with kv := kv, K := s0.K ++ [p] } :: S1 : List SvcD) = S2 at *
 have hl : S2.length ≤ 10 := by
  rw [hS] at h1
  rw [← hg]
  simpa using h1
 have e2 : allAt (fun a e => endB a S2 e) [] c.E = true := by
  rw [allAt_spec] at h5 ⊢
  intro k hk
  have := h5 k hk
  simp only [endB, ht] at this ⊢
  exact this
 have e4 : c.R.all (leadB S2) = true := by
  rw [List.all_eq_true] at h7 ⊢
  intro x hx
  have := h7 x hx
  unfold leadB at this ⊢
  simp only [ht]
  exact this
 unfold chkC
 show (if 10 < S2.length ∨ 40 < c.E.length ∨ 4 < c.T.length then 2 else if allAt svcB [] S2 = false then 13 else if allAt (fun a e => endB a S2 e) [] c.E = false then 14 else if nerr c.R c.T.length ≠ 0 then nerr c.R c.T.length else if c.R.all (leadB S2) = false then 13 else if c.T.all rateB = false then 15 else if watchB c = false then 8 else if numB c = false then 8 else 0) = 0
 rw [if_neg (by omega), if_neg (by rw [e1]; decide), if_neg (by rw [e2]; decide), if_neg (by omega), if_neg (by rw [e4]; decide), if_neg h8.1, if_neg h8.2.1, if_neg h8.2.2]
theorem kid_fit {c : ConfD} {p : ByteArray} {kv : Value} {s0 : SvcD} {S1 : List SvcD} (h : ConfFit c) (hS : c.S = s0 :: S1) (hp : SzB p) : ConfFit (kidMore c p kv) := by
 rw [kidM_eq hS]
 obtain ⟨h1, h2, h3, h4, h5, h6, h7⟩ := h
 rw [hS] at h1 h4
 refine ⟨fun s hs => ?_, h2, h3, by simpa using h4, h5, h6, h7⟩
 rcases List.mem_cons.1 hs with rfl | hs
 ·obtain ⟨k1, k2, k3, k4, k5, k6, k7⟩ := h1 s0 (List.mem_cons_self ..)
  refine ⟨k1, k2, k3, k4, k5, k6, fun x hx => ?_⟩
  rcases List.mem_append.1 hx with hx | hx
  ·exact k7 x hx
  ·rw [List.mem_singleton.1 hx]
   exact hp
 ·exact h1 s (List.mem_cons_of_mem _ hs)
theorem part_mono {a b : Int} (m : Int) (hm : 0 ≤ m) (h : a ≤ b) : partM a m ≤ partM b m := by
 have := Int.mul_le_mul_of_nonneg_right h hm
 unfold partM
 omega
theorem kd_mesh {c : ConfD} (q : Int) (h : KDp c) : KDp (meshC q c) := by
 unfold meshC
 split
 ·exact h
 intro s0 S1 e g hg
 have e1 : c.S.mapIdx (svcM q) = s0 :: S1 := e
 have hkv : ∀ i (s : SvcD) (x : Nat), (svcM q i s).kv.ownBlock = some x → s.kv.ownBlock = some x := fun i s x hx => by
  unfold svcM at hx
  simp only at hx
  split at hx
  ·cases hx
  ·exact hx
 cases hS : c.S with
 | nil =>
  rw [hS] at e1
  cases e1
 | cons y S2 =>
  rw [hS, List.mapIdx_cons] at e1
  injection e1 with a b
  subst a b
  obtain ⟨k1, k2⟩ := h y S2 hS g (hkv _ _ _ hg)
  refine ⟨fun s hs hx => ?_, fun r hr => ?_⟩
  ·obtain ⟨i, hi, rfl⟩ := List.mem_mapIdx.1 hs
   exact k1 _ (List.getElem_mem hi) (hkv _ _ _ hx)
  ·obtain ⟨i, hi, rfl⟩ := List.mem_mapIdx.1 (show r ∈ c.R.mapIdx (ruleM q) from hr)
   exact k2 c.R[i] (List.getElem_mem hi)
theorem depth_bd {c : ConfD} (h : chkC c = 0) : depthC c ≤ 1000000 := by
 obtain ⟨-, -, -, h1, h2, -⟩ := chk_num h
 have hd1 : c.life / c.hop ≤ c.life := Int.ediv_le_self _ (by omega)
 unfold depthC
 omega
/-! ## memory -/
theorem sliced_whole (a : Option Addr) (n c s : Nat) : sliced a 0 n c s = .slice a n c := by
 unfold sliced
 rw [Nat.zero_mul]
 cases a <;> simp [Addr.add]
theorem wp_slice_whole {P : Program} {w : World} {o : Oper} {ac : Act} {K : Act → World → Prop} {Q : Exit → Act → World → Prop} (t : TypeId) (i : TypeInfo) (x y : Operand) (ho : o.op = .slice t x none (some y) none) (ht : P.underlying t = some (.slice (P.elem t))) (hi : P.info? (P.elem t) = some i)
  (a : Option Addr) (n c : Nat) (hx : ac.eval x = .slice a n c) (hy : ac.eval y = .int .i64 (n : Int)) (hle : n ≤ c) (h : K (ac.put o.dst (.slice a n c)) w) : o.wp P ac w K Q := by
 have h1 : (Instr.sliceAt t (.slice a n c) none (some (.int .i64 (n : Int))) none).run P w = .ok (.slice a n c) w := by
  rw [run_sliceAt_slice w t _ _ _ _ ht, run_slice_h w t a n c ht .i64 (n : Int) (by omega) (by omega)]
  simp [sizeOf, typeInfo, hi, Result.andThen, sliced_whole]
 unfold Oper.wp execOp
 simp only [ho, Option.map_none, Option.map_some, Sem.run_bind, Sem.run_pure, Result.andThen_ok, hx, hy, h1]
 exact h
theorem owns_capP {w : World} {base : Nat} {e : TypeId} {size : Nat} {a : Option Addr} {n c : Nat} {xs : List Value} (h : w.ownsRow base e size (.slice a n c) n xs) : n ≤ c := by
 rcases h.2 with ⟨h1, h2⟩ | ⟨g, cap, cur, hv, _, _, h1, _⟩
 ·injection h1 with _ _ h3
  omega
 ·injection hv with _ _ h3
  omega
theorem cell_grown {w w' : World} {row : Option Nat} (h : w.grownBy w' row) {b o : Nat} {u : Value} (hc : w.cell? ⟨b, o, none⟩ = some u) (hn : row ≠ some b) : w'.cell? ⟨b, o, none⟩ = some u := by
 have h1 := h.block b (World.block_lt_of_cell? w _ hc) (fun e => hn e.symm)
 simp only [World.cell?] at hc ⊢
 rw [h1]
 exact hc
theorem strs_lit1 {w w' : World} {p : ByteArray} (h : Ext (w.alloc (.cells #[.string p] 9)) w') : Strs w' (.slice (some ⟨w.heap.size, 0, none⟩) 1 1) [p] := by
 have h1 := World.ownsRow_lit (base := 0) (e := 9) (size := 1) w #[.string p] 1 (Nat.zero_le _) (by unfold maxLen; omega) rfl
 have h2 : Strs (w.alloc (.cells #[.string p] 9)) (.slice (some ⟨w.heap.size, 0, none⟩) 1 1) [p] := Sl.of_own' (enc := encS) (xs := [p]) (fun _ => rfl) (base := 0) (e := 9) h1
 exact h2.ext h
/-- the phases of 'x.Kids = append(x.Kids[:n], "..")' -/
def PhU (B : Nat) (W : World) (row : Option Nat) (kq : Addr) (m : Nat) (xs : List Value) (p : ByteArray) : List Value → World → Prop
 | [], w' => Ext W w'
 | [v], w' => ∃ w8, Ext W w8 ∧ v = .slice (some ⟨w8.heap.size, 0, none⟩) 1 1 ∧ Ext (w8.alloc (.cells #[.string p] 9)) w'
 | [_, u], w' => ∃ w7 w9, Ext W w7 ∧ w7.grownBy w9 row ∧ w9.ownsRow B 9 1 u (m + 1) (xs ++ [.string p]) ∧ Ext w9 w'
 | _ :: u :: _ :: _, w' => ∃ w7 w9, Ext W w7 ∧ w7.grownBy w9 row ∧ w9.ownsRow B 9 1 u (m + 1) (xs ++ [.string p]) ∧ ∃ w10, Ext w9 w10 ∧ Ext (w10.setCell kq u) w'
theorem PhU.keep {B : Nat} {W : World} {row : Option Nat} {kq : Addr} {m : Nat} {xs : List Value} {p : ByteArray} : ∀ {vs : List Value} {w' w'' : World}, PhU B W row kq m xs p vs w' → Ext w' w'' → PhU B W row kq m xs p vs w''
 | [], _, _, h, e => Ext.trans h e
 | [_], _, _, ⟨w8, h1, h2, h3⟩, e => ⟨w8, h1, h2, h3.trans e⟩
 | [_, _], _, _, ⟨w7, w9, h1, h2, h3, h4⟩, e => ⟨w7, w9, h1, h2, h3, h4.trans e⟩
 | _ :: _ :: _ :: _, _, _, ⟨w7, w9, h1, h2, h3, w10, h4, h5⟩, e => ⟨w7, w9, h1, h2, h3, w10, h4, h5.trans e⟩
theorem PhU.x1 {B : Nat} {W : World} {row : Option Nat} {kq : Addr} {m : Nat} {xs : List Value} {p : ByteArray} {vs : List Value} {w' : World} (h : PhU B W row kq m xs p vs w') (hl : vs.length ≤ 1) : Ext W w' := by
 rcases vs with _ | ⟨v, _ | ⟨u, vs⟩⟩
 ·exact h
 ·obtain ⟨w8, h1, -, h3⟩ := h
  exact Ext.trans h1 (Ext.trans (show Ext w8 (w8.alloc (.cells #[.string p] 9)) from (Below.refl _ _).alloc (Nat.le_refl _) _) h3)
 ·simp at hl
/-- the first service's kids, one more: their block is no other row's -/
theorem OwnC.addK {B b g cap : Nat} {V w7 w9 w10 : World} {d : ConfD} {s0 : SvcD} {S1 : List SvcD} {v1 : Value} {p : ByteArray} (h : OwnC B V b d) (hS : d.S = s0 :: S1) (hkd : KDp d) (hv : d.sv = .slice (some ⟨g, 0, none⟩) d.S.length cap) (E1 : Ext V w7) (hg : w7.grownBy w9 s0.kv.ownBlock)
  (ho : w9.ownsRow B 9 1 v1 (s0.K.length + 1) (s0.K.flatMap encS ++ [.string p])) (E2 : Ext w9 w10) : OwnC B (w10.setCell ⟨g, 1, none⟩ v1) b (kidMore d p v1) := by
 have h7 := h.ext E1
 have hk : Keeps (fun q => s0.kv.ownBlock = some q) w7 w9 := Keeps.of_grown hg (fun q e => e)
 have hmem : s0 ∈ d.S := by rw [hS]; exact List.mem_cons_self ..
 have hof : OfT w7 (fun q => s0.kv.ownBlock = some q) 9 := fun q e => by
  obtain ⟨cs, f, hh⟩ := ownsRow_kind (h7.own.k s0 hmem) q e
  exact ⟨cs, f, hh⟩
 have hb9 : BoxC w9 b d := h7.keepBox hk hof (by decide)
 have hsr := owns_ext (owns_keepT h7.own.s hk hof (by decide)) E2
 have hkr : ∀ s ∈ S1, w10.ownsRow B 9 1 s.kv s.K.length (s.K.flatMap encS) := fun s hs => owns_ext (owns_keeps (h7.own.k s (by rw [hS]; exact List.mem_cons_of_mem _ hs)) hk (fun q e1 e2 => (hkd s0 S1 hS q e2).1 s hs e1)) E2
 have her := owns_ext (owns_keepT h7.own.e hk hof (by decide)) E2
 have hrr := owns_ext (owns_keepT h7.own.r hk hof (by decide)) E2
 have htr := owns_ext (owns_keepT h7.own.t hk hof (by decide)) E2
 have hru : ∀ r ∈ d.R, RuleOwn B w10 r := fun r hr => by
  obtain ⟨r1, r2, r3, r4⟩ := h7.own.rr r hr
  exact ⟨owns_ext (owns_keepT r1 hk hof (by decide)) E2, owns_ext (owns_keepT r2 hk hof (by decide)) E2, owns_ext (owns_keepT r3 hk hof (by decide)) E2, owns_ext (owns_keeps r4 hk (fun q e1 e2 => (hkd s0 S1 hS q e2).2 r hr e1)) E2⟩
 have hnew := owns_ext ho E2
 have hb10 := hb9.ext E2
 obtain ⟨csg, fz, hgc⟩ := ownsRow_kind hsr g (by rw [hv]; rfl)
 have hks := Keeps.of_set (X := fun q => q = g) w10 g 1 v1 rfl
 have hof2 : OfT w10 (fun q => q = g) 70 := OfT.one hgc
 have hbx : BoxC (w10.setCell ⟨g, 1, none⟩ v1) b d := by
  refine hb10.keep (hks.block b hb10.lt fun e => ?_)
  have hb := hb10
  unfold BoxC at hb
  rw [show b = g from e, hgc] at hb
  injection hb with hb
  injection hb with h1 h2 h3
  exact absurd h2 (by decide)
 have hlen : d.S.length = S1.length + 1 := by rw [hS]; rfl
 have hsr2 : w10.ownsRow B 70 7 (.slice (some ⟨g, 0, none⟩) (S1.length + 1) cap) (S1.length + 1) ((s0 :: S1).flatMap encV) := by
  rw [hv, hlen, hS] at hsr
  exact hsr
 have hset : (w10.setCell ⟨g, 1, none⟩ v1).ownsRow B 70 7 (.slice (some ⟨g, 0, none⟩) (S1.length + 1) cap) (S1.length + 1) (({ s0 with kv := v1, K := s0.K ++ [p] } :: S1 : List SvcD).flatMap encV) := owns_set1G encV_len hsr2 0 1 (by simp) (by decide) v1 { s0 with kv := v1, K := s0.K ++ [p] } rfl
 rw [kidM_eq hS]
 have hv2 : d.sv = .slice (some ⟨g, 0, none⟩) (S1.length + 1) cap := by rw [hv, hlen]
 refine ⟨hbx, ⟨?_, fun s hs => ?_, owns_keepT her hks hof2 (by decide), owns_keepT hrr hks hof2 (by decide), fun r hr => (hru r hr).keepT hks hof2 (by decide) (by decide) (by decide), owns_keepT htr hks hof2 (by decide)⟩⟩
 ·show World.ownsRow _ _ _ _ d.sv _ _
  rw [hv2]
  exact hset
 ·rcases List.mem_cons.1 hs with rfl | hs
  ·show World.ownsRow _ _ _ _ v1 (s0.K ++ [p]).length ((s0.K ++ [p]).flatMap encS)
   rw [List.length_append, List.flatMap_append]
   exact owns_keepT hnew hks hof2 (by decide)
  ·exact owns_keepT (hkr s hs) hks hof2 (by decide)
/-- a configuration that is written behind a world -/
structure DU (w0 w : World) (b : Nat) (c : ConfD) : Prop where
 ext : Ext w0 w
 own : OwnC w0.heap.size w b c
 ge : w0.heap.size ≤ b
theorem DU.to {w0 w w' : World} {b : Nat} {c : ConfD} (h : DU w0 w b c) (e : Ext w w') : DU w0 w' b c := ⟨h.ext.trans e, h.own.ext e, h.ge⟩
theorem DU.setN {w0 w : World} {b : Nat} {c : ConfD} (h : DU w0 w b c) (j : Nat) (u : Value) (c' : ConfD) (he : encC c' = (encC c).set j u) (h1 : c'.sv = c.sv ∧ c'.S = c.S) (h2 : c'.ev = c.ev ∧ c'.E = c.E) (h3 : c'.rv = c.rv ∧ c'.R = c.R) (h4 : c'.tv = c.tv ∧ c'.T = c.T) : DU w0 (w.setCell ⟨b, j, none⟩ u) b c' :=
 ⟨Keeps.ext h.ext (Keeps.of_set (X := fun q => q = b) w b j u rfl) (fun q hq => by rw [hq]; exact h.ge), h.own.setN j u c' he h1 h2 h3 h4, h.ge⟩
theorem DU.addK {b g cap : Nat} {w0 V w7 w9 w10 : World} {d : ConfD} {s0 : SvcD} {S1 : List SvcD} {v1 : Value} {p : ByteArray} (h : DU w0 V b d) (hS : d.S = s0 :: S1) (hkd : KDp d) (hv : d.sv = .slice (some ⟨g, 0, none⟩) d.S.length cap) (hgb : w0.heap.size ≤ g) (E1 : Ext V w7) (hg : w7.grownBy w9 s0.kv.ownBlock)
  (ho : w9.ownsRow w0.heap.size 9 1 v1 (s0.K.length + 1) (s0.K.flatMap encS ++ [.string p])) (E2 : Ext w9 w10) : DU w0 (w10.setCell ⟨g, 1, none⟩ v1) b (kidMore d p v1) := by
 refine ⟨?_, h.own.addK hS hkd hv E1 hg ho E2, h.ge⟩
 have hmem : s0 ∈ d.S := by rw [hS]; exact List.mem_cons_self ..
 have h9 : Ext w0 w9 := Keeps.ext (h.ext.trans E1) (Keeps.of_grown (X := fun q => s0.kv.ownBlock = some q) hg (fun q e => e)) (fun q e => ((h.own.own.k s0 hmem).lt q e).1)
 exact Keeps.ext (h9.trans E2) (Keeps.of_set (X := fun q => q = g) w10 g 1 v1 rfl) (fun q hq => by rw [hq]; exact hgb)
theorem cell_extP {w X : World} (hX : Ext w X) {g o : Nat} {u : Value} (h : w.cell? ⟨g, o, none⟩ = some u) : X.cell? ⟨g, o, none⟩ = some u := by
 have h1 := hX.block g (World.block_lt_of_cell? w _ h)
 simp only [World.cell?] at h ⊢
 rw [h1]
 exact h
theorem frozen_extP {w X : World} (hX : Ext w X) {g o : Nat} {u : Value} (h : w.cell? ⟨g, o, none⟩ = some u) (hf : w.frozen? ⟨g, o, none⟩ = false) : X.frozen? ⟨g, o, none⟩ = false := by
 have h1 := hX.block g (World.block_lt_of_cell? w _ h)
 simp only [World.frozen?] at hf ⊢
 rw [h1]
 exact hf
theorem frozen_grown {w w' : World} {row : Option Nat} (h : w.grownBy w' row) {b o : Nat} {u : Value} (hc : w.cell? ⟨b, o, none⟩ = some u) (hn : row ≠ some b) (hf : w.frozen? ⟨b, o, none⟩ = false) : w'.frozen? ⟨b, o, none⟩ = false := by
 have h1 := h.block b (World.block_lt_of_cell? w _ hc) (fun e => hn e.symm)
 simp only [World.frozen?] at hf ⊢
 rw [h1]
 exact hf
theorem allocC34 (w : World) : (Instr.alloc 60 true (.tuple #[])).run Tryd.prog w = .ok (.pointer (some ⟨w.heap.size, 0, none⟩)) (w.alloc (.cells #[.slice none 0 0, .slice none 0 0, .slice none 0 0, .slice none 0 0, .int .i64 0, .int .i64 0, .int .i64 0, .int .i64 0, .int .i64 0, .int .i64 0, .int .i64 0, .int .i64 0, .int .i64 0, .int .i64 0, .int .i64 0, .int .i64 0, .int .i64 0, .int .i64 0, .int .i64 0, .int .i64 0] 60)) := by kernel_rfl
theorem strInfo : ∃ it zt, Tryd.prog.info? 9 = some it ∧ it.zero = some zt ∧ it.size = 1 ∧ it.bytes = 16 ∧ zt.cells.size = 1 := info_partsN (by kernel_rfl)
set_option maxRecDepth 100000 in
theorem frame103 (x : Nat → Value) : frameOf 103 x = #[x 0, x 1, x 2, x 3, x 4, x 5, x 6, x 7, x 8, x 9, x 10, x 11, x 12, x 13, x 14, x 15, x 16, x 17, x 18, x 19, x 20, x 21, x 22, x 23, x 24, x 25, x 26, x 27, x 28, x 29, x 30, x 31, x 32, x 33, x 34, x 35, x 36, x 37, x 38, x 39, x 40, x 41, x 42, x 43, x 44, x 45, x 46, x 47, x 48, x 49, x 50, x 51, x 52, x 53, x 54, x 55, x 56, x 57, x 58, x 59, x 60, x 61, x 62, x 63, x 64, x 65, x 66, x 67, x 68, x 69, x 70, x 71, x 72, x 73, x 74, x 75, x 76, x 77, x 78, x 79, x 80, x 81, x 82, x 83, x 84, x 85, x 86, x 87, x 88, x 89, x 90, x 91, x 92, x 93, x 94, x 95, x 96, x 97, x 98, x 99, x 100, x 101, x 102] := rfl
set_option maxRecDepth 100000 in
set_option maxHeartbeats 16000000 in
theorem purse_any (L : List Int) (how ar pw : Int) (v : Value) (w : World) (hm : MaxV w) (hs : Ints w v L) (hL : ∀ x ∈ L, I64 x) (hh : I64 how) (har : I64 ar) (hpw : I64 pw) :
  Calls Tryd.prog 5 #[v, .int .i64 how, .int .i64 ar, .int .i64 pw] w fun e w' => e = .returned (.bool true) ∧ Ext w w' := by
 obtain ⟨cd, hcd1, hcd2⟩ := Tryd.confDesc
 obtain ⟨it, zt, ht1, ht2, ht3, ht4, ht5⟩ := strInfo
 have HM := hide hm
 have hA1 := fun X => around_any ar 6 X har (by decide)
 have hb1 := around_bd ar 6 (by decide)
 generalize around ar 6 = k at hA1 hb1
 have hA2 := fun X => around_any pw 65 X hpw (by decide)
 have hb2 := around_bd pw 65 (by decide)
 generalize around pw 65 = pu at hA2 hb2
 have HA1 := hide hA1
 have HA2 := hide hA2
 have HPB := hide hb2
 have HIK := hide (show I64 k by unfold I64; omega)
 have HME := hide (mesh_any L how v w hs hL hh)
 have HMD := hide (fun X (hX : Ext w X) => mesh_any L how v X (hs.ext hX) hL hh)
 clear hm hA1 hA2 hb1 hb2 hs hL
 go_enter Tryd.func5, Tryd.ntmps5
 go_upto_region 1 with (fail)
 refine wp_region_lit ?_
 refine wpList_plain rfl fun Kq hKq => ?_
 go_simp
 refine hKq _ _ ?_
 clear hKq Kq
 refine wpList_plain rfl fun Kq hKq => ?_
 go_simp
 refine hKq _ _ ?_
 clear hKq Kq
 refine wpList_plain rfl fun Kq hKq => ?_
 go_simp
 refine HME.out.mono ?_
 rintro e W1 ⟨c, c0, rfl, hc0, hc, ho, E1, -⟩
 refine hKq _ _ ?_
 clear hKq Kq
 refine wpList_box rfl 60 rfl rfl (.tmp 9) (.tmp 17) rfl (encC c) #[.slice none 0 0, .slice none 0 0, .slice none 0 0, .slice none 0 0, .int .i64 0, .int .i64 0, .int .i64 0, .int .i64 0, .int .i64 0, .int .i64 0, .int .i64 0, .int .i64 0, .int .i64 0, .int .i64 0, .int .i64 0, .int .i64 0, .int .i64 0, .int .i64 0, .int .i64 0, .int .i64 0] allocC34 rfl rfl rfl Tryd.confSize (encC_oneG ho) ?_
 intro W2 hbx2 E2
 have hge : w.heap.size ≤ W1.heap.size := E1.size
 obtain ⟨b9, hb9⟩ : ∃ b, W1.heap.size = b := ⟨_, rfl⟩
 rw [hb9] at hbx2 hge ⊢
 have h2 : OwnC w.heap.size W2 b9 c := ⟨hbx2, ho.ext E2⟩
 refine wpList_nil ?_
 simp only [Act.put]
 have HS1 := hide (show DU w W2 b9 c from ⟨E1.trans E2, h2, hge⟩)
 -- the numbers
 obtain ⟨g1, g2, -⟩ := good_conf hc0
 have hcg : chkC c = 0 ∧ ConfFit c := by subst hc; exact ⟨meshC_right _ g2, meshC_fit _ (chk_R g2) g1⟩
 have hmp := mesh_pos hc0 (around how 4)
 rw [← hc] at hmp
 have hmc : c.core = meshC (around how 4) (genC L) := by rw [hc, mesh_core, hc0]
 have hc1g : chkC { c with purse := 0 } = 0 := purse_right hcg.1 (by omega)
 have hc2g : chkC { c with purse := pu } = 0 := purse_right hcg.1 (by have := HPB.out; omega)
 have hstr : factC { c with purse := pu } k = partM (factC { c with purse := 0 } k) (1 + pu) := fact_straight (c := c) rfl rfl rfl
 have hst0 : 0 ≤ factC { c with purse := 0 } k ∧ factC { c with purse := 0 } k ≤ mostN := by
  have h1 := loadC_bd { c with purse := 0 } k
  have h2 : factC { c with purse := 0 } k = loadC { c with purse := 0 } k := part_one h1
  rw [h2]
  exact h1
 have hfd : ∀ d : ConfD, d.core = c.core → factC { d with purse := pu } k = factC { c with purse := pu } k := fun d e => by
  show partM (loadC d k) (1 + pu) = partM (loadC c k) (1 + pu)
  rw [load_same e]
 obtain ⟨c1, hc1⟩ : ∃ x, ({ c with purse := 0 } : ConfD) = x := ⟨_, rfl⟩
 obtain ⟨c2, hc2⟩ : ∃ x, ({ c with purse := pu } : ConfD) = x := ⟨_, rfl⟩
 have hf1 : ConfFit c1 := by subst hc1; exact hcg.2
 have hf2 : ConfFit c2 := by subst hc2; exact hcg.2
 have hc2S : c2.S = c.S := by subst hc2; rfl
 have hc2p : c2.purse = pu := by subst hc2; rfl
 have he1 : encC c1 = (encC c).set 17 (.int .i64 0) := by subst hc1; rfl
 have he2 : encC c2 = (encC c1).set 17 (.int .i64 pu) := by subst hc1 hc2; rfl
 have hr1 : (c1.sv = c.sv ∧ c1.S = c.S) ∧ (c1.ev = c.ev ∧ c1.E = c.E) ∧ (c1.rv = c.rv ∧ c1.R = c.R) ∧ (c1.tv = c.tv ∧ c1.T = c.T) := by subst hc1; exact ⟨⟨rfl, rfl⟩, ⟨rfl, rfl⟩, ⟨rfl, rfl⟩, ⟨rfl, rfl⟩⟩
 have hr2 : (c2.sv = c1.sv ∧ c2.S = c1.S) ∧ (c2.ev = c1.ev ∧ c2.E = c1.E) ∧ (c2.rv = c1.rv ∧ c2.R = c1.R) ∧ (c2.tv = c1.tv ∧ c2.T = c1.T) := by subst hc1 hc2; exact ⟨⟨rfl, rfl⟩, ⟨rfl, rfl⟩, ⟨rfl, rfl⟩, ⟨rfl, rfl⟩⟩
 have hp1 : (encC c1)[17]? = some (.int .i64 0) := by subst hc1; rfl
 rw [hc1] at hc1g hstr hst0
 rw [hc2] at hc2g hstr hfd
 obtain ⟨many, hmany⟩ : ∃ x, factC c2 k = x := ⟨_, rfl⟩
 obtain ⟨st, hst⟩ : ∃ x, factC c1 k = x := ⟨_, rfl⟩
 rw [hmany, hst] at hstr
 rw [hst] at hst0
 simp only [hmany] at hfd
 have HCP2 := hide hc2p
 have HMP := hide hmp
 have HMC := hide hmc
 have HFD := hide hfd
 have HC2G := hide (And.intro hc2g hf2)
 have HMY := hide hmany
 have HSTR := hide hstr
 have HST0 := hide hst0
 have HS2E := hide hc2S
 clear hc0 hc ho E1 E2 h2 hbx2 hge hb9 g1 g2 hcg hmp hmc hstr hst0 hfd hc2p hc2S HME
 go_wp2_with fail
 refine (HA1.out W2).mono ?_
 rintro e X1 ⟨rfl, rfl⟩
 go_upto_region 3 with (fail)
 have y1 := HS1.out.own.box.cell 17 (.int .i64 c.purse) rfl
 have y2 := HS1.out.own.box.frozen 17
 have HS2 := hide (HS1.out.setN 17 (.int .i64 0) c1 he1 hr1.1 hr1.2.1 hr1.2.2.1 hr1.2.2.2)
 go_upto_region 4 with (fail)
 generalize W2.setCell ⟨b9, 17, none⟩ (.int .i64 0) = wn1 at HS2 ⊢
 clear y1 y2 HS1 he1 hr1 hc1
 have hff1 := factor_any c1 k wn1 (HS2.out.own.gc (HM.out.ext HS2.out.ext) hc1g hf1) HIK.out
 simp only [hst] at hff1
 have hbx := HS2.out.own.box
 go_wp2_with (first | (refine BigFrame.wpList_want (by rfl) fun K hK => ?_; refine wp_load_mid 60 (.tmp 9) rfl b9 0 rfl (encC c1) cd hbx.range hcd1 hcd2 Tryd.confSize ?_; refine hK _ _ ?_; simp only [Act.put]))
 refine hff1.mono ?_
 rintro e w4 ⟨rfl, E4⟩
 have HS3 := hide (HS2.out.to E4)
 clear hff1 hbx HS2 E4 hst hc1g hf1
 go_wp2_with fail
 refine (HA2.out w4).mono ?_
 rintro e X2 ⟨rfl, rfl⟩
 have y1 := HS3.out.own.box.cell 17 (.int .i64 0) hp1
 have y2 := HS3.out.own.box.frozen 17
 have HS4 := hide (HS3.out.setN 17 (.int .i64 pu) c2 he2 hr2.1 hr2.2.1 hr2.2.2.1 hr2.2.2.2)
 go_upto_region 6 with (fail)
 generalize w4.setCell ⟨b9, 17, none⟩ (.int .i64 pu) = w5 at HS4 ⊢
 clear y1 y2 HS3 he2 hr2 hp1
 have hff2 := factor_any c2 k w5 (HS4.out.own.gc (HM.out.ext HS4.out.ext) hc2g hf2) HIK.out
 simp only [hmany] at hff2
 have hbx := HS4.out.own.box
 go_wp2_with (first | (refine BigFrame.wpList_want (by rfl) fun K hK => ?_; refine wp_load_mid 60 (.tmp 9) rfl b9 0 rfl (encC c2) cd hbx.range hcd1 hcd2 Tryd.confSize ?_; refine hK _ _ ?_; simp only [Act.put]))
 refine hff2.mono ?_
 rintro e w6 ⟨rfl, E6⟩
 have HS5 := hide (HS4.out.to E6)
 clear hff2 hbx HS4 E6 hmany hc2g hf2 hc2
 have y1 := HS5.out.own.box.cell 17 (.int .i64 pu) (by show some (Value.int .i64 c2.purse) = _; rw [HCP2.out])
 have hwn : IntKind.i64.wrap (1 + pu) = 1 + pu := by have := HPB.out; rw [IntKind.wrap_i64]; omega
 have hfp := fpart_any st (1 + pu) w6 HST0.out (by have := HPB.out; omega)
 rw [← HSTR.out] at hfp
 have hmm : (many != many) = false := by simp
 go_wp2_with fail
 refine hfp.mono ?_
 rintro e W6 ⟨rfl, E7⟩
 have HS6 := hide (HS5.out.to E7)
 clear hfp y1 HS5 E7
 -- what the loop reads
 obtain ⟨gs, sc, hsv, -⟩ := owns_block HS6.out.own.own.s (by rw [HS2E.out]; exact HMP.out.1)
 have hown := HS6.out.own.own.s
 rw [hsv] at hown
 have hsvc : ∀ X, Ext W6 X → X.cell? ⟨b9, 0, none⟩ = some (.slice (some ⟨gs, 0, none⟩) c2.S.length sc) := fun X hX => (HS6.out.own.box.ext hX).cell 0 _ (by show some c2.sv = _; rw [hsv])
 have HSVC := hide hsvc
 have HPU := hide (fun X (hX : Ext W6 X) => (HS6.out.own.box.ext hX).cell 17 (.int .i64 pu) (by show some (Value.int .i64 c2.purse) = _; rw [HCP2.out]))
 have HB2 := hide (fun X (hX : Ext W6 X) => HS6.out.own.box.ext hX)
 have HX6 := hide HS6.out.ext
 have HGC2 := hide (HS6.out.own.gc (HM.out.ext HS6.out.ext) HC2G.out.1 HC2G.out.2)
 have HOWN := hide hown
 have hsl : c2.S.length ≤ 1000 := HC2G.out.2.2.2.2.1
 have HSL := hide hsl
 have HWN := hide hwn
 clear hown hsvc hsl hsv
 go_wp2_with fail
 clear hmm
 go_loopw [13] (fun v13 wr => ∃ i : Nat, i ≤ c2.S.length ∧ v13 = .int .i64 i ∧ Ext W6 wr) (fun i _ => c2.S.length - (intOf i).toNat)
 case atStart => exact ⟨0, Nat.zero_le _, rfl, Below.refl _ _⟩
 case round =>
  obtain ⟨i, hi, rfl, hext⟩ := hrel
  have HE := hide hext
  have hz2 := HSVC.out wr hext
  clear hext
  by_cases hlt : i < c2.S.length
  ·have hltz : (i : Int) < c2.S.length := by omega
   have hwi : IntKind.i64.wrap ((i : Int) + 1) = ((i + 1 : Nat) : Int) := by have := HSL.out; rw [IntKind.wrap_i64]; omega
   have hid : W6.cell? ⟨gs, i * 7, none⟩ = some (.int .i64 c2.S[i].id) := (cell_rowG encV_len HOWN.out i hlt 0 (.int .i64 c2.S[i].id) rfl).1
   have hxi : I64 c2.S[i].id := (HGC2.out.fit.1 c2.S[i] (List.getElem_mem hlt)).1
   have hwl := walk_load (c := c2) (id := k) (List.getElem_mem hlt)
   generalize c2.S[i].id = x at hid hxi hwl
   have hz := lvl_bd (kidsG c2) k (depthC c2) x
   have hwk := fun X (hX : Ext W6 X) => gwalks_any c2 x k (depthC c2) X (HGC2.out.ext hX) hxi HIK.out (depth_bd HC2G.out.1)
   generalize lvl (kidsG c2) k (depthC c2) x = z at hwl hz hwk
   have hpt := fun (X : World) (hX : Ext W6 X) => fpart_any z (1 + pu) X hz (by have := HPB.out; omega)
   have hy : partM z (1 + pu) ≤ many := by
    rw [← HMY.out]
    show _ ≤ partM (loadC c2 k) (1 + c2.purse)
    rw [HCP2.out]
    exact part_mono (1 + pu) (by have := HPB.out; omega) hwl
   generalize partM z (1 + pu) = y at hpt hy
   have HGT := hide (show decide (many < y) = false from decide_eq_false (by omega))
   have HID := hide (fun X (hX : Ext W6 X) => cell_extP hX hid)
   have HWK := hide hwk
   have HPT := hide hpt
   have HDE := hide (fun X (hX : Ext W6 X) => depth_any c2 X HC2G.out.1)
   clear hid hxi hwl hz hwk hpt hy
   go_upto_region 12 with (fail)
   refine wp_region_ro 103 [44, 45, 46, 47, 48, 49, 50, 51, 52, 53, 54, 55, 56, 57, 58, 59, 60] (fun w' => Ext wr w') (fun (t : Nat) (wI : World) (v : Value) => match t with | 44 => v = (.agg (encC c2).toArray) | 45 => v = (.pointer (some ⟨b9, 0, none⟩)) | 46 => v = (.slice (some ⟨gs, 0, none⟩) c2.S.length sc) | 47 => v = (.int .i64 (i : Int)) | 48 => v = (.pointer (some ⟨gs, i * 7, none⟩)) | 49 => v = (.pointer (some ⟨gs, i * 7, none⟩)) | 50 => v = (.int .i64 x) | 51 => v = (.int .i64 k) | 52 => v = (.agg (encC c2).toArray) | 53 => v = (.int .i64 (depthC c2 : Int)) | 54 => v = (.int .i64 z) | 55 => v = (.pointer (some ⟨b9, 17, none⟩)) | 56 => v = (.int .i64 pu) | 57 => v = (.int .i64 (1 + pu)) | 58 => v = (.int .i64 y) | 59 => v = (.int .i64 many) | 60 => v = (.bool false) | _ => True) (by kernel_rfl) rfl (by kernel_rfl) (by kernel_rfl) (by kernel_rfl) ?_ ?_ ?_ ?_ ?_
   ·intro t w' w'' v hR hv
    exact hv
   ·intro w' w'' h e
    exact Ext.trans (show Ext _ w' from h) e
   ·exact (Below.refl _ _).drew
   ·intro i o ho X w' hph hI hF K hK
    have hin : i < 17 := (Array.getElem?_eq_some_iff.1 ho).1
    have hi : i = 0 ∨ i = 1 ∨ i = 2 ∨ i = 3 ∨ i = 4 ∨ i = 5 ∨ i = 6 ∨ i = 7 ∨ i = 8 ∨ i = 9 ∨ i = 10 ∨ i = 11 ∨ i = 12 ∨ i = 13 ∨ i = 14 ∨ i = 15 ∨ i = 16 := by omega
    rcases hi with rfl | rfl | rfl | rfl | rfl | rfl | rfl | rfl | rfl | rfl | rfl | rfl | rfl | rfl | rfl | rfl | rfl
    ·obtain rfl := Option.some.inj ho
     have e9 : X 9 = (.pointer (some ⟨b9, 0, none⟩)) := hF 9 (by kernel_rfl)
     have hx : Ext W6 w' := HE.out.trans hph
     unfold wpOp
     simp only [ho]
     rw [if_pos (by rfl)]
     left
     rw [frame103]
     refine wp_load_mid 60 (.tmp 9) rfl b9 0 e9 (encC c2) cd (HB2.out w' hx).range hcd1 hcd2 Tryd.confSize (metK (hK.out (.agg (encC c2).toArray) _ (Below.refl _ _) (fun d hd => by cases hd; exact rfl)) ?_)
     simp [frame103, Act.put, *]
    ·obtain rfl := Option.some.inj ho
     have e9 : X 9 = (.pointer (some ⟨b9, 0, none⟩)) := hF 9 (by kernel_rfl)
     unfold wpOp
     simp only [ho]
     rw [if_pos (by rfl)]
     left
     rw [frame103]
     go_simp
     refine metK (hK.out ((.pointer (some ⟨b9, 0, none⟩))) _ (Below.refl _ _) (fun d hd => by cases hd; exact rfl)) ?_
     simp [frame103, Act.put, *]
    ·obtain rfl := Option.some.inj ho
     have e45 : X 45 = _ := hI 45 (by kernel_rfl)
     have hx : Ext W6 w' := HE.out.trans hph
     have q1 := HSVC.out w' hx
     unfold wpOp
     simp only [ho]
     rw [if_pos (by rfl)]
     left
     rw [frame103]
     go_simp
     refine metK (hK.out ((.slice (some ⟨gs, 0, none⟩) c2.S.length sc)) _ (Below.refl _ _) (fun d hd => by cases hd; exact rfl)) ?_
     simp [frame103, Act.put, *]
    ·obtain rfl := Option.some.inj ho
     have e13 : X 13 = (.int .i64 (i : Int)) := hF 13 (by kernel_rfl)
     unfold wpOp
     simp only [ho]
     rw [if_pos (by rfl)]
     left
     rw [frame103]
     go_simp
     refine metK (hK.out ((.int .i64 (i : Int))) _ (Below.refl _ _) (fun d hd => by cases hd; exact rfl)) ?_
     simp [frame103, Act.put, *]
    ·obtain rfl := Option.some.inj ho
     have e46 : X 46 = _ := hI 46 (by kernel_rfl)
     have e47 : X 47 = _ := hI 47 (by kernel_rfl)
     unfold wpOp
     simp only [ho]
     rw [if_pos (by rfl)]
     left
     rw [frame103]
     go_simp
     refine metK (hK.out ((.pointer (some ⟨gs, i * 7, none⟩))) _ (Below.refl _ _) (fun d hd => by cases hd; exact rfl)) ?_
     simp [frame103, Act.put, *]
    ·obtain rfl := Option.some.inj ho
     have e48 : X 48 = _ := hI 48 (by kernel_rfl)
     unfold wpOp
     simp only [ho]
     rw [if_pos (by rfl)]
     left
     rw [frame103]
     go_simp
     refine metK (hK.out ((.pointer (some ⟨gs, i * 7, none⟩))) _ (Below.refl _ _) (fun d hd => by cases hd; exact rfl)) ?_
     simp [frame103, Act.put, *]
    ·obtain rfl := Option.some.inj ho
     have e49 : X 49 = _ := hI 49 (by kernel_rfl)
     have hx : Ext W6 w' := HE.out.trans hph
     have q1 := HID.out w' hx
     unfold wpOp
     simp only [ho]
     rw [if_pos (by rfl)]
     left
     rw [frame103]
     go_simp
     refine metK (hK.out ((.int .i64 x)) _ (Below.refl _ _) (fun d hd => by cases hd; exact rfl)) ?_
     simp [frame103, Act.put, *]
    ·obtain rfl := Option.some.inj ho
     have e10 : X 10 = (.int .i64 k) := hF 10 (by kernel_rfl)
     unfold wpOp
     simp only [ho]
     rw [if_pos (by rfl)]
     left
     rw [frame103]
     go_simp
     refine metK (hK.out ((.int .i64 k)) _ (Below.refl _ _) (fun d hd => by cases hd; exact rfl)) ?_
     simp [frame103, Act.put, *]
    ·obtain rfl := Option.some.inj ho
     have e9 : X 9 = (.pointer (some ⟨b9, 0, none⟩)) := hF 9 (by kernel_rfl)
     have hx : Ext W6 w' := HE.out.trans hph
     unfold wpOp
     simp only [ho]
     rw [if_pos (by rfl)]
     left
     rw [frame103]
     refine wp_load_mid 60 (.tmp 9) rfl b9 0 e9 (encC c2) cd (HB2.out w' hx).range hcd1 hcd2 Tryd.confSize (metK (hK.out (.agg (encC c2).toArray) _ (Below.refl _ _) (fun d hd => by cases hd; exact rfl)) ?_)
     simp [frame103, Act.put, *]
    ·obtain rfl := Option.some.inj ho
     have e52 : X 52 = _ := hI 52 (by kernel_rfl)
     have hx : Ext W6 w' := HE.out.trans hph
     unfold wpOp
     simp only [ho]
     rw [if_pos (by rfl)]
     left
     rw [frame103]
     go_simp
     refine (HDE.out w' hx).mono ?_
     rintro e w9 ⟨rfl, E9⟩
     refine metK (hK.out (.int .i64 (depthC c2 : Int)) w9 E9 (fun d hd => by cases hd; exact rfl)) ?_
     simp [frame103, Act.put, *]
    ·obtain rfl := Option.some.inj ho
     have e44 : X 44 = _ := hI 44 (by kernel_rfl)
     have e50 : X 50 = _ := hI 50 (by kernel_rfl)
     have e51 : X 51 = _ := hI 51 (by kernel_rfl)
     have e53 : X 53 = _ := hI 53 (by kernel_rfl)
     have hx : Ext W6 w' := HE.out.trans hph
     unfold wpOp
     simp only [ho]
     rw [if_pos (by rfl)]
     left
     rw [frame103]
     go_simp
     refine (HWK.out w' hx).mono ?_
     rintro e w9 ⟨rfl, E9⟩
     refine metK (hK.out (.int .i64 z) w9 E9 (fun d hd => by cases hd; exact rfl)) ?_
     simp [frame103, Act.put, *]
    ·obtain rfl := Option.some.inj ho
     have e9 : X 9 = (.pointer (some ⟨b9, 0, none⟩)) := hF 9 (by kernel_rfl)
     unfold wpOp
     simp only [ho]
     rw [if_pos (by rfl)]
     left
     rw [frame103]
     go_simp
     refine metK (hK.out ((.pointer (some ⟨b9, 17, none⟩))) _ (Below.refl _ _) (fun d hd => by cases hd; exact rfl)) ?_
     simp [frame103, Act.put, *]
    ·obtain rfl := Option.some.inj ho
     have e55 : X 55 = _ := hI 55 (by kernel_rfl)
     have hx : Ext W6 w' := HE.out.trans hph
     have q1 := HPU.out w' hx
     unfold wpOp
     simp only [ho]
     rw [if_pos (by rfl)]
     left
     rw [frame103]
     go_simp
     refine metK (hK.out ((.int .i64 pu)) _ (Below.refl _ _) (fun d hd => by cases hd; exact rfl)) ?_
     simp [frame103, Act.put, *]
    ·obtain rfl := Option.some.inj ho
     have e56 : X 56 = _ := hI 56 (by kernel_rfl)
     have q1 := HWN.out
     unfold wpOp
     simp only [ho]
     rw [if_pos (by rfl)]
     left
     rw [frame103]
     go_simp
     refine metK (hK.out ((.int .i64 (1 + pu))) _ (Below.refl _ _) (fun d hd => by cases hd; exact rfl)) ?_
     simp [frame103, Act.put, *]
    ·obtain rfl := Option.some.inj ho
     have e54 : X 54 = _ := hI 54 (by kernel_rfl)
     have e57 : X 57 = _ := hI 57 (by kernel_rfl)
     have hx : Ext W6 w' := HE.out.trans hph
     unfold wpOp
     simp only [ho]
     rw [if_pos (by rfl)]
     left
     rw [frame103]
     go_simp
     refine (HPT.out w' hx).mono ?_
     rintro e w9 ⟨rfl, E9⟩
     refine metK (hK.out (.int .i64 y) w9 E9 (fun d hd => by cases hd; exact rfl)) ?_
     simp [frame103, Act.put, *]
    ·obtain rfl := Option.some.inj ho
     have e12 : X 12 = (.int .i64 many) := hF 12 (by kernel_rfl)
     unfold wpOp
     simp only [ho]
     rw [if_pos (by rfl)]
     left
     rw [frame103]
     go_simp
     refine metK (hK.out ((.int .i64 many)) _ (Below.refl _ _) (fun d hd => by cases hd; exact rfl)) ?_
     simp [frame103, Act.put, *]
    ·obtain rfl := Option.some.inj ho
     have e58 : X 58 = _ := hI 58 (by kernel_rfl)
     have e59 : X 59 = _ := hI 59 (by kernel_rfl)
     have q1 := HGT.out
     unfold wpOp
     simp only [ho]
     rw [if_pos (by rfl)]
     left
     rw [frame103]
     go_simp
     refine metK (hK.out ((.bool false)) _ (Below.refl _ _) (fun d hd => by cases hd; exact rfl)) ?_
     simp [frame103, Act.put, *]
   ·intro X w' hph hI
    have e44 : X 44 = _ := hI 44 (by kernel_rfl)
    have e45 : X 45 = _ := hI 45 (by kernel_rfl)
    have e46 : X 46 = _ := hI 46 (by kernel_rfl)
    have e47 : X 47 = _ := hI 47 (by kernel_rfl)
    have e48 : X 48 = _ := hI 48 (by kernel_rfl)
    have e49 : X 49 = _ := hI 49 (by kernel_rfl)
    have e50 : X 50 = _ := hI 50 (by kernel_rfl)
    have e51 : X 51 = _ := hI 51 (by kernel_rfl)
    have e52 : X 52 = _ := hI 52 (by kernel_rfl)
    have e53 : X 53 = _ := hI 53 (by kernel_rfl)
    have e54 : X 54 = _ := hI 54 (by kernel_rfl)
    have e55 : X 55 = _ := hI 55 (by kernel_rfl)
    have e56 : X 56 = _ := hI 56 (by kernel_rfl)
    have e57 : X 57 = _ := hI 57 (by kernel_rfl)
    have e58 : X 58 = _ := hI 58 (by kernel_rfl)
    have e59 : X 59 = _ := hI 59 (by kernel_rfl)
    have e60 : X 60 = _ := hI 60 (by kernel_rfl)
    clear hI
    simp only [overF, List.foldl_cons, List.foldl_nil, List.setIfInBounds_toArray, List.set_cons_succ, List.set_cons_zero, e44, e45, e46, e47, e48, e49, e50, e51, e52, e53, e54, e55, e56, e57, e58, e59, e60]
    have hx9 : Ext wr w' := hph
    have HE9 := hide (HE.out.trans hx9)
    clear hph hx9 e44 e45 e46 e47 e48 e49 e50 e51 e52 e53 e54 e55 e56 e57 e58 e59 e60
    generalize w' = W9 at *
    go_wp2
    go_roundw
    case rel => exact ⟨i + 1, hlt, by go_num, HE9.out⟩
    case measure => simp [intOf] <;> omega
  ·obtain rfl : i = c2.S.length := by omega
   have hltz : ¬ (c2.S.length : Int) < c2.S.length := by omega
   have HXR := hide (HX6.out.trans HE.out)
   go_upto_region 14 with (fail)
   clear hltz hz2
   refine wp_region_lit ?_
   refine wpList_plain rfl fun Kq hKq => ?_
   go_simp
   refine hKq _ _ ?_
   clear hKq Kq
   refine wpList_plain rfl fun Kq hKq => ?_
   go_simp
   refine hKq _ _ ?_
   clear hKq Kq
   refine wpList_plain rfl fun Kq hKq => ?_
   go_simp
   refine (HMD.out wr HXR.out).mono ?_
   rintro e W3 ⟨d, d0, rfl, hd0, hd, hod, E3, hkd0⟩
   refine hKq _ _ ?_
   clear hKq Kq
   refine wpList_box rfl 60 rfl rfl (.tmp 14) (.tmp 63) rfl (encC d) #[.slice none 0 0, .slice none 0 0, .slice none 0 0, .slice none 0 0, .int .i64 0, .int .i64 0, .int .i64 0, .int .i64 0, .int .i64 0, .int .i64 0, .int .i64 0, .int .i64 0, .int .i64 0, .int .i64 0, .int .i64 0, .int .i64 0, .int .i64 0, .int .i64 0, .int .i64 0, .int .i64 0] allocC34 rfl rfl rfl Tryd.confSize (encC_oneG hod) ?_
   intro V4 hbx4 E4
   have hge : wr.heap.size ≤ W3.heap.size := E3.size
   obtain ⟨b14, hb14⟩ : ∃ b, W3.heap.size = b := ⟨_, rfl⟩
   rw [hb14] at hbx4 hge ⊢
   have h4 : OwnC wr.heap.size V4 b14 d := ⟨hbx4, hod.ext E4⟩
   refine wpList_nil ?_
   simp only [Act.put]
   have HT1 := hide (show DU wr V4 b14 d from ⟨E3.trans E4, h4, hge⟩)
   obtain ⟨f1, f2, -⟩ := good_conf hd0
   have hdg : chkC d = 0 ∧ ConfFit d := by subst hd; exact ⟨meshC_right _ f2, meshC_fit _ (chk_R f2) f1⟩
   have hdm := mesh_pos hd0 (around how 4)
   rw [← hd] at hdm
   have hdc : d.core = c.core := by rw [HMC.out, hd, mesh_core, hd0]
   have hkd : KDp d := by rw [hd]; exact kd_mesh _ hkd0
   have hfmd := HFD.out d hdc
   obtain ⟨d2, hd2⟩ : ∃ x, ({ d with purse := pu } : ConfD) = x := ⟨_, rfl⟩
   have hd2g : chkC d2 = 0 ∧ ConfFit d2 := by subst hd2; exact ⟨purse_right hdg.1 (by have := HPB.out; omega), hdg.2⟩
   have hkd2 : KDp d2 := by subst hd2; exact hkd
   have hdm2 : 0 < d2.S.length ∧ ∀ s ∈ d2.S, s.K.length ≤ 2 := by subst hd2; exact hdm
   have hed : encC d2 = (encC d).set 17 (.int .i64 pu) := by subst hd2; rfl
   have hrd : (d2.sv = d.sv ∧ d2.S = d.S) ∧ (d2.ev = d.ev ∧ d2.E = d.E) ∧ (d2.rv = d.rv ∧ d2.R = d.R) ∧ (d2.tv = d.tv ∧ d2.T = d.T) := by subst hd2; exact ⟨⟨rfl, rfl⟩, ⟨rfl, rfl⟩, ⟨rfl, rfl⟩, ⟨rfl, rfl⟩⟩
   have hfm : ∀ u : Value, many ≤ factC (kidMore d2 ⟨#[47, 97]⟩ u) k := fun u => by
    have h1 := fact_more d2 ⟨#[47, 97]⟩ u k (by subst hd2; show 0 ≤ pu; have := HPB.out; omega)
    rw [hd2] at hfmd
    rw [hfmd] at h1
    exact h1
   have HFM := hide hfm
   have HDG := hide hd2g
   have HKD := hide hkd2
   have HDM := hide hdm2
   clear hd0 hd hod E3 E4 h4 hbx4 hge hb14 f1 f2 hdg hdm hdc hkd hkd0 hfmd hd2g hkd2 hdm2 hfm hd2 HMD
   have y0 := HPU.out V4 (HE.out.trans HT1.out.ext)
   have y1 := HT1.out.own.box.cell 17 (.int .i64 d.purse) rfl
   have y2 := HT1.out.own.box.frozen 17
   have HT2 := hide (HT1.out.setN 17 (.int .i64 pu) d2 hed hrd.1 hrd.2.1 hrd.2.2.1 hrd.2.2.2)
   go_upto_region 16 with (fail)
   generalize V4.setCell ⟨b14, 17, none⟩ (.int .i64 pu) = V at HT2 ⊢
   clear y0 y1 y2 HT1 hed hrd
   -- what region 16 reads
   obtain ⟨s0, S1, hS⟩ : ∃ s0 S1, d2.S = s0 :: S1 := by
    cases h : d2.S with
    | nil => have := HDM.out.1; rw [h] at this; exact absurd this (by decide)
    | cons a b => exact ⟨a, b, rfl⟩
   have hmem : s0 ∈ d2.S := by rw [hS]; exact List.mem_cons_self ..
   obtain ⟨g, cap, hgv, hgb⟩ := owns_block HT2.out.own.own.s HDM.out.1
   have hko := HT2.out.own.own.k s0 hmem
   obtain ⟨ka, kc, hkv⟩ := owns_shape hko
   have htd := fun w7 w9 w10 v1 h1 h2 h3 h4 => HT2.out.addK (w7 := w7) (w9 := w9) (w10 := w10) (v1 := v1) (p := ⟨#[47, 97]⟩) hS HKD.out hgv hgb h1 h2 h3 h4
   rw [hkv] at hko
   simp only [hkv] at htd
   have hsr := HT2.out.own.own.s
   rw [hgv] at hsr
   have hrow : V.cell? ⟨g, 1, none⟩ = some (.slice ka s0.K.length kc) ∧ V.frozen? ⟨g, 1, none⟩ = false := by
    have h0 : 0 < d2.S.length := HDM.out.1
    have e : d2.S[0] = s0 := by simp [hS]
    have h1 := cell_rowG encV_len hsr 0 h0 1 s0.kv (by rw [e]; rfl)
    rw [hkv] at h1
    simpa using h1
   have hgne : (Value.slice ka s0.K.length kc).ownBlock ≠ some g := fun hq => owns_ne hko hsr (by decide) g hq rfl
   have hb14k : (Value.slice ka s0.K.length kc).ownBlock ≠ some b14 := fun hq => by
    obtain ⟨cs, f, hh⟩ := ownsRow_kind hko b14 hq
    have hb := HT2.out.own.box
    unfold BoxC at hb
    rw [hh] at hb
    injection hb with hb
    injection hb with h1 h2 h3
    exact absurd h2 (by decide)
   have hb14g : b14 ≠ g := fun e => by
    obtain ⟨cs, f, hh⟩ := ownsRow_kind hsr g rfl
    have hb := HT2.out.own.box
    unfold BoxC at hb
    rw [e, hh] at hb
    injection hb with hb
    injection hb with h1 h2 h3
    exact absurd h2 (by decide)
   have hc14 : V.cell? ⟨b14, 0, none⟩ = some (.slice (some ⟨g, 0, none⟩) d2.S.length cap) := HT2.out.own.box.cell 0 _ (by show some d2.sv = _; rw [hgv])
   have HC14 := hide hc14
   have HKC := hide (fun X (hX : Ext V X) => cell_extP hX hrow.1)
   have HGC := hide (fun (X w7 w9 : World) (h1 : Ext V w7) (h2 : w7.grownBy w9 (Value.slice ka s0.K.length kc).ownBlock) (h4 : Ext w9 X) => cell_extP h4 (cell_grown h2 (cell_extP h1 hrow.1) hgne))
   have HGF := hide (fun (X w7 w9 : World) (h1 : Ext V w7) (h2 : w7.grownBy w9 (Value.slice ka s0.K.length kc).ownBlock) (h4 : Ext w9 X) => show X.frozen? ⟨g, 1, none⟩ = false from frozen_extP h4 (cell_grown h2 (cell_extP h1 hrow.1) hgne) (frozen_grown h2 (cell_extP h1 hrow.1) hgne (frozen_extP h1 hrow.1 hrow.2)))
   have HNB := hide hb14k
   have HNG := hide (show (⟨g, 1, none⟩ : Addr) ≠ ⟨b14, 0, none⟩ from fun e => hb14g (by injection e with e1 e2; exact e1.symm))
   have HKO := hide hko
   have HKN := hide (HDM.out.2 s0 hmem)
   have HCP := hide (owns_capP hko)
   have HMI := hide (show min (s0.K.length : Int) 3 = (s0.K.length : Int) by have := HDM.out.2 s0 hmem; omega)
   have HLZ := hide HDM.out.1
   have HBV := hide (HT2.out.ext.size)
   have HTD := hide htd
   have HS0 := hide hS
   have HRE := hide HE.out
   -- the first service of c2
   obtain ⟨t0, T1, hT⟩ : ∃ s0 S1, c2.S = s0 :: S1 := by
    cases h : c2.S with
    | nil => have := HMP.out.1; rw [← HS2E.out, h] at this; exact absurd this (by decide)
    | cons a b => exact ⟨a, b, rfl⟩
   have htm : t0 ∈ c2.S := by rw [hT]; exact List.mem_cons_self ..
   obtain ⟨ta, tc, htv⟩ := owns_shape (HS6.out.own.own.k t0 htm)
   obtain ⟨kl, hkl⟩ : ∃ x, t0.K.length = x := ⟨_, rfl⟩
   rw [hkl] at htv
   have HKL := hide (show kl ≤ 2 by rw [← hkl]; exact HMP.out.2 t0 (by rw [← HS2E.out]; exact htm))
   have hk0 : W6.cell? ⟨gs, 1, none⟩ = some (.slice ta kl tc) := by
    have h0 : 0 < c2.S.length := by rw [hT]; exact Nat.succ_pos _
    have e : c2.S[0] = t0 := by simp [hT]
    have h1 := cell_rowG encV_len HOWN.out 0 h0 1 t0.kv (by rw [e]; rfl)
    rw [htv] at h1
    simpa using h1.1
   have HK0 := hide (fun X (hX : Ext W6 X) => cell_extP hX hk0)
   have HL0 := hide (show 0 < c2.S.length by rw [hT]; exact Nat.succ_pos _)
   clear hS hmem hgv hgb hko hkv htd hsr hrow hgne hb14k hb14g hc14 hT htm htv hkl hk0 HT2
   refine wp_region_rwz 103 [15, 16, 19] [67, 68, 69, 70, 71, 72, 73, 74, 75, 76, 77, 78, 79, 80, 81, 82, 83, 84, 85] (fun vs w' => PhU wr.heap.size V (Value.slice ka s0.K.length kc).ownBlock ⟨g, 1, none⟩ s0.K.length (s0.K.flatMap encS) ⟨#[47, 97]⟩ vs w' ∧ w'.cell? ⟨b14, 0, none⟩ = some (.slice (some ⟨g, 0, none⟩) d2.S.length cap)) (fun (t : Nat) (wI : World) (v : Value) => match t with | 67 => v = (.pointer (some ⟨b14, 0, none⟩)) | 68 => v = (.slice (some ⟨g, 0, none⟩) d2.S.length cap) | 69 => v = (.pointer (some ⟨b14, 0, none⟩)) | 70 => v = (.slice (some ⟨g, 0, none⟩) d2.S.length cap) | 71 => v = (.pointer (some ⟨g, 0, none⟩)) | 72 => v = (.pointer (some ⟨g, 1, none⟩)) | 73 => v = (.slice ka s0.K.length kc) | 74 => v = (.pointer (some ⟨b14, 0, none⟩)) | 75 => v = (.slice (some ⟨g, 0, none⟩) d2.S.length cap) | 76 => v = (.pointer (some ⟨g, 0, none⟩)) | 77 => v = (.pointer (some ⟨g, 1, none⟩)) | 78 => v = (.slice ka s0.K.length kc) | 79 => v = (.int .i64 (s0.K.length : Int)) | 80 => v = (.int .i64 (s0.K.length : Int)) | 81 => v = (.slice ka s0.K.length kc) | 84 => v = (.pointer (some ⟨g, 0, none⟩)) | 85 => v = (.pointer (some ⟨g, 1, none⟩)) | _ => True) (fun _ _ => True) (by kernel_rfl) rfl (by kernel_rfl) (by kernel_rfl) (by kernel_rfl) (by kernel_rfl) ?_ ?_ ?_ ?_ ?_ ?_ ?_
   ·intro w' w'' h
    trivial
   ·intro t w' w'' v hR hv
    exact hv
   ·intro vs w' w'' h e
    exact ⟨h.1.keep e, cell_extP e h.2⟩
   ·exact ⟨(Below.refl _ _).drew, HC14.out⟩
   ·intro i o ho hmi vs X w' hpk hph hX hI hF K hK
    have hin : i < 20 := (Array.getElem?_eq_some_iff.1 ho).1
    have hi : i = 0 ∨ i = 1 ∨ i = 2 ∨ i = 3 ∨ i = 4 ∨ i = 5 ∨ i = 6 ∨ i = 7 ∨ i = 8 ∨ i = 9 ∨ i = 10 ∨ i = 11 ∨ i = 12 ∨ i = 13 ∨ i = 14 ∨ i = 15 ∨ i = 16 ∨ i = 17 ∨ i = 18 ∨ i = 19 := by omega
    rcases hi with rfl | rfl | rfl | rfl | rfl | rfl | rfl | rfl | rfl | rfl | rfl | rfl | rfl | rfl | rfl | rfl | rfl | rfl | rfl | rfl
    ·obtain rfl := Option.some.inj ho
     have e14 : X 14 = (.pointer (some ⟨b14, 0, none⟩)) := hF 14 (by kernel_rfl)
     unfold wpOp
     simp only [ho]
     rw [if_pos (by rfl)]
     left
     rw [frame103]
     go_simp
     refine metK (hK.out ((.pointer (some ⟨b14, 0, none⟩))) _ (Below.refl _ _) (fun d hd => by cases hd; exact rfl)) ?_
     simp [frame103, Act.put, *]
    ·obtain rfl := Option.some.inj ho
     have e67 : X 67 = _ := hI 67 (by kernel_rfl) (by kernel_rfl)
     have q1 := hph.2
     unfold wpOp
     simp only [ho]
     rw [if_pos (by rfl)]
     left
     rw [frame103]
     go_simp
     refine metK (hK.out ((.slice (some ⟨g, 0, none⟩) d2.S.length cap)) _ (Below.refl _ _) (fun d hd => by cases hd; exact rfl)) ?_
     simp [frame103, Act.put, *]
    ·obtain rfl := Option.some.inj ho
     have e14 : X 14 = (.pointer (some ⟨b14, 0, none⟩)) := hF 14 (by kernel_rfl)
     unfold wpOp
     simp only [ho]
     rw [if_pos (by rfl)]
     left
     rw [frame103]
     go_simp
     refine metK (hK.out ((.pointer (some ⟨b14, 0, none⟩))) _ (Below.refl _ _) (fun d hd => by cases hd; exact rfl)) ?_
     simp [frame103, Act.put, *]
    ·obtain rfl := Option.some.inj ho
     have e69 : X 69 = _ := hI 69 (by kernel_rfl) (by kernel_rfl)
     have q1 := hph.2
     unfold wpOp
     simp only [ho]
     rw [if_pos (by rfl)]
     left
     rw [frame103]
     go_simp
     refine metK (hK.out ((.slice (some ⟨g, 0, none⟩) d2.S.length cap)) _ (Below.refl _ _) (fun d hd => by cases hd; exact rfl)) ?_
     simp [frame103, Act.put, *]
    ·obtain rfl := Option.some.inj ho
     have e70 : X 70 = _ := hI 70 (by kernel_rfl) (by kernel_rfl)
     have q0 := HLZ.out
     have q9 : (0 : Int) < (d2.S.length : Int) := by omega
     unfold wpOp
     simp only [ho]
     rw [if_pos (by rfl)]
     left
     rw [frame103]
     go_simp
     refine metK (hK.out ((.pointer (some ⟨g, 0, none⟩))) _ (Below.refl _ _) (fun d hd => by cases hd; exact rfl)) ?_
     simp [frame103, Act.put, *]
    ·obtain rfl := Option.some.inj ho
     have e71 : X 71 = _ := hI 71 (by kernel_rfl) (by kernel_rfl)
     unfold wpOp
     simp only [ho]
     rw [if_pos (by rfl)]
     left
     rw [frame103]
     go_simp
     refine metK (hK.out ((.pointer (some ⟨g, 1, none⟩))) _ (Below.refl _ _) (fun d hd => by cases hd; exact rfl)) ?_
     simp [frame103, Act.put, *]
    ·obtain rfl := Option.some.inj ho
     have e72 : X 72 = _ := hI 72 (by kernel_rfl) (by kernel_rfl)
     have hx := hph.1.x1 ((hpk 1 (by decide)).2 (by kernel_rfl))
     have q2 := HKC.out w' hx
     unfold wpOp
     simp only [ho]
     rw [if_pos (by rfl)]
     left
     rw [frame103]
     go_simp
     refine metK (hK.out ((.slice ka s0.K.length kc)) _ (Below.refl _ _) (fun d hd => by cases hd; exact rfl)) ?_
     simp [frame103, Act.put, *]
    ·obtain rfl := Option.some.inj ho
     have e14 : X 14 = (.pointer (some ⟨b14, 0, none⟩)) := hF 14 (by kernel_rfl)
     unfold wpOp
     simp only [ho]
     rw [if_pos (by rfl)]
     left
     rw [frame103]
     go_simp
     refine metK (hK.out ((.pointer (some ⟨b14, 0, none⟩))) _ (Below.refl _ _) (fun d hd => by cases hd; exact rfl)) ?_
     simp [frame103, Act.put, *]
    ·obtain rfl := Option.some.inj ho
     have e74 : X 74 = _ := hI 74 (by kernel_rfl) (by kernel_rfl)
     have q1 := hph.2
     unfold wpOp
     simp only [ho]
     rw [if_pos (by rfl)]
     left
     rw [frame103]
     go_simp
     refine metK (hK.out ((.slice (some ⟨g, 0, none⟩) d2.S.length cap)) _ (Below.refl _ _) (fun d hd => by cases hd; exact rfl)) ?_
     simp [frame103, Act.put, *]
    ·obtain rfl := Option.some.inj ho
     have e75 : X 75 = _ := hI 75 (by kernel_rfl) (by kernel_rfl)
     have q0 := HLZ.out
     have q9 : (0 : Int) < (d2.S.length : Int) := by omega
     unfold wpOp
     simp only [ho]
     rw [if_pos (by rfl)]
     left
     rw [frame103]
     go_simp
     refine metK (hK.out ((.pointer (some ⟨g, 0, none⟩))) _ (Below.refl _ _) (fun d hd => by cases hd; exact rfl)) ?_
     simp [frame103, Act.put, *]
    ·obtain rfl := Option.some.inj ho
     have e76 : X 76 = _ := hI 76 (by kernel_rfl) (by kernel_rfl)
     unfold wpOp
     simp only [ho]
     rw [if_pos (by rfl)]
     left
     rw [frame103]
     go_simp
     refine metK (hK.out ((.pointer (some ⟨g, 1, none⟩))) _ (Below.refl _ _) (fun d hd => by cases hd; exact rfl)) ?_
     simp [frame103, Act.put, *]
    ·obtain rfl := Option.some.inj ho
     have e77 : X 77 = _ := hI 77 (by kernel_rfl) (by kernel_rfl)
     have hx := hph.1.x1 ((hpk 1 (by decide)).2 (by kernel_rfl))
     have q2 := HKC.out w' hx
     unfold wpOp
     simp only [ho]
     rw [if_pos (by rfl)]
     left
     rw [frame103]
     go_simp
     refine metK (hK.out ((.slice ka s0.K.length kc)) _ (Below.refl _ _) (fun d hd => by cases hd; exact rfl)) ?_
     simp [frame103, Act.put, *]
    ·obtain rfl := Option.some.inj ho
     have e78 : X 78 = _ := hI 78 (by kernel_rfl) (by kernel_rfl)
     unfold wpOp
     simp only [ho]
     rw [if_pos (by rfl)]
     left
     rw [frame103]
     go_simp
     refine metK (hK.out ((.int .i64 (s0.K.length : Int))) _ (Below.refl _ _) (fun d hd => by cases hd; exact rfl)) ?_
     simp [frame103, Act.put, *]
    ·obtain rfl := Option.some.inj ho
     have e79 : X 79 = _ := hI 79 (by kernel_rfl) (by kernel_rfl)
     have q1 := HMI.out
     unfold wpOp
     simp only [ho]
     rw [if_pos (by rfl)]
     left
     rw [frame103]
     go_simp
     refine metK (hK.out ((.int .i64 (s0.K.length : Int))) _ (Below.refl _ _) (fun d hd => by cases hd; exact rfl)) ?_
     simp [frame103, Act.put, *]
    ·obtain rfl := Option.some.inj ho
     have e73 : X 73 = _ := hI 73 (by kernel_rfl) (by kernel_rfl)
     have e80 : X 80 = _ := hI 80 (by kernel_rfl) (by kernel_rfl)
     unfold wpOp
     simp only [ho]
     rw [if_pos (by rfl)]
     left
     rw [frame103]
     refine wp_slice_whole 37 it (.tmp 73) (.tmp 80) rfl Tryd.underlying37 ht1 ka s0.K.length kc (by simp [Act.eval, *]) (by simp [Act.eval, *]) HCP.out (metK (hK.out (.slice ka s0.K.length kc) _ (Below.refl _ _) (fun d hd => by cases hd; exact rfl)) ?_)
     simp [frame103, Act.put, *]
    ·exact absurd hmi (by decide)
    ·exact absurd hmi (by decide)
    ·obtain rfl := Option.some.inj ho
     have e68 : X 68 = _ := hI 68 (by kernel_rfl) (by kernel_rfl)
     have q0 := HLZ.out
     have q9 : (0 : Int) < (d2.S.length : Int) := by omega
     unfold wpOp
     simp only [ho]
     rw [if_pos (by rfl)]
     left
     rw [frame103]
     go_simp
     refine metK (hK.out ((.pointer (some ⟨g, 0, none⟩))) _ (Below.refl _ _) (fun d hd => by cases hd; exact rfl)) ?_
     simp [frame103, Act.put, *]
    ·obtain rfl := Option.some.inj ho
     have e84 : X 84 = _ := hI 84 (by kernel_rfl) (by kernel_rfl)
     unfold wpOp
     simp only [ho]
     rw [if_pos (by rfl)]
     left
     rw [frame103]
     go_simp
     refine metK (hK.out ((.pointer (some ⟨g, 1, none⟩))) _ (Below.refl _ _) (fun d hd => by cases hd; exact rfl)) ?_
     simp [frame103, Act.put, *]
    ·exact absurd hmi (by decide)
   ·intro i o ho hmi vs X w' hqi hql hph hX hI hF K hK
    rcases vs with _ | ⟨v0, _ | ⟨v1, _ | ⟨v2, _⟩⟩⟩
    ·obtain rfl : 15 = i := hqi
     obtain rfl := Option.some.inj ho
     have hx : Ext V w' := hph.1
     unfold wpOp
     simp only [ho]
     rw [if_pos (by rfl)]
     left
     rw [frame103]
     go_simp
     refine metK (hK.out (.slice (some ⟨w'.heap.size, 0, none⟩) 1 1) _ ⟨⟨w', hx, rfl, Below.refl _ _⟩, cell_extP ((Below.refl _ _).alloc (Nat.le_refl _) _) hph.2⟩ trivial) ?_
     simp [frame103, Act.put, *]
    ·obtain rfl : 16 = i := hqi
     obtain rfl := Option.some.inj ho
     have e81 : X 81 = _ := hI 81 (by kernel_rfl) (by kernel_rfl)
     have e82 : X 82 = v0 := hX 0 82 (by simp) (by kernel_rfl)
     obtain ⟨⟨w8, h1, h2, h3⟩, hc0⟩ := hph
     have hE8 : Ext w8 w' := Ext.trans (show Ext w8 (w8.alloc (.cells #[.string ⟨#[47, 97]⟩] 9)) from (Below.refl _ _).alloc (Nat.le_refl _) _) h3
     unfold wpOp
     simp only [ho]
     rw [if_pos (by rfl)]
     left
     rw [frame103]
     refine wp_append_sl (enc := encS) (.tmp 81) (.tmp 82) 37 rfl wr.heap.size 9 it zt 1 16 Tryd.underlying37 ht1 ht2 ht3 ht4 ht5 (by decide) (fun _ => rfl) (.slice ka s0.K.length kc) s0.K.length (s0.K.flatMap encS) (by simp [Act.eval, *]) (owns_ext HKO.out (Ext.trans h1 hE8)) v0 (by simp [Act.eval, *]) [⟨#[47, 97]⟩] (by rw [h2]; exact strs_lit1 h3) (fun x hx u hu => by rw [List.mem_singleton.1 hx] at hu; rw [List.mem_singleton.1 hu]; rfl) (by have := HKN.out; unfold maxLen; simp; omega) (by have := HKN.out; simp; omega) (Nat.le_trans HBV.out (Ext.trans h1 hE8).size) (fun v' w9 ho9 hg9 => ?_)
     refine metK (hK.out v' w9 ⟨⟨w', w9, Ext.trans h1 hE8, hg9, (by have h := ho9; simp only [List.length_singleton, List.flatMap_cons, List.flatMap_nil, List.append_nil] at h; exact h), Below.refl _ _⟩, cell_grown hg9 hc0 HNB.out⟩ trivial) ?_
     simp [frame103, Act.put, *]
    ·obtain rfl : 19 = i := hqi
     obtain rfl := Option.some.inj ho
     have e83 : X 83 = v1 := hX 1 83 (by simp) (by kernel_rfl)
     have e85 : X 85 = _ := hI 85 (by kernel_rfl) (by kernel_rfl)
     obtain ⟨⟨w7, w9, h1, h2, h3, h4⟩, hc0⟩ := hph
     obtain ⟨ya, yc, rfl⟩ := owns_shape h3
     have q2 := HGC.out w' w7 w9 h1 h2 h4
     have q3 := HGF.out w' w7 w9 h1 h2 h4
     unfold wpOp
     simp only [ho]
     rw [if_pos (by rfl)]
     left
     rw [frame103]
     go_simp
     refine metK (hK.out undef _ ⟨⟨w7, w9, h1, h2, h3, w', h4, Below.refl _ _⟩, (World.cell?_setCell_other _ _ _ _ HNG.out).trans hc0⟩ trivial) ?_
     simp [frame103, Act.put, *]
    ·simp at hql <;> omega
   ·intro vs X w' hlen hph hX hI
    have e67 : X 67 = _ := hI 67 (by omega) (by kernel_rfl) (by kernel_rfl)
    have e68 : X 68 = _ := hI 68 (by omega) (by kernel_rfl) (by kernel_rfl)
    have e69 : X 69 = _ := hI 69 (by omega) (by kernel_rfl) (by kernel_rfl)
    have e70 : X 70 = _ := hI 70 (by omega) (by kernel_rfl) (by kernel_rfl)
    have e71 : X 71 = _ := hI 71 (by omega) (by kernel_rfl) (by kernel_rfl)
    have e72 : X 72 = _ := hI 72 (by omega) (by kernel_rfl) (by kernel_rfl)
    have e73 : X 73 = _ := hI 73 (by omega) (by kernel_rfl) (by kernel_rfl)
    have e74 : X 74 = _ := hI 74 (by omega) (by kernel_rfl) (by kernel_rfl)
    have e75 : X 75 = _ := hI 75 (by omega) (by kernel_rfl) (by kernel_rfl)
    have e76 : X 76 = _ := hI 76 (by omega) (by kernel_rfl) (by kernel_rfl)
    have e77 : X 77 = _ := hI 77 (by omega) (by kernel_rfl) (by kernel_rfl)
    have e78 : X 78 = _ := hI 78 (by omega) (by kernel_rfl) (by kernel_rfl)
    have e79 : X 79 = _ := hI 79 (by omega) (by kernel_rfl) (by kernel_rfl)
    have e80 : X 80 = _ := hI 80 (by omega) (by kernel_rfl) (by kernel_rfl)
    have e81 : X 81 = _ := hI 81 (by omega) (by kernel_rfl) (by kernel_rfl)
    have e84 : X 84 = _ := hI 84 (by omega) (by kernel_rfl) (by kernel_rfl)
    have e85 : X 85 = _ := hI 85 (by omega) (by kernel_rfl) (by kernel_rfl)
    rcases vs with _ | ⟨v0, _ | ⟨v1, _ | ⟨v2, _ | ⟨vz, vs⟩⟩⟩⟩
    ·simp at hlen
    ·simp at hlen
    ·simp at hlen
    rotate_left
    ·simp at hlen
    have e82 : X 82 = v0 := hX 0 82 (by simp) (by kernel_rfl)
    have e83 : X 83 = v1 := hX 1 83 (by simp) (by kernel_rfl)
    clear hX hI hlen
    simp only [overF, List.foldl_cons, List.foldl_nil, List.setIfInBounds_toArray, List.set_cons_succ, List.set_cons_zero, e67, e68, e69, e70, e71, e72, e73, e74, e75, e76, e77, e78, e79, e80, e81, e82, e83, e84, e85]
    obtain ⟨⟨w7, w9, h1, h2, h3, w10, h4, h5⟩, hc0⟩ := hph
    have hno := (HTD.out w7 w9 w10 v1 h1 h2 h3 h4).to h5
    have HNO := hide hno
    have HZ6 := hide (HRE.out.trans hno.ext)
    clear hno h1 h2 h3 h4 h5 hc0 e67 e68 e69 e70 e71 e72 e73 e74 e75 e76 e77 e78 e79 e80 e81 e84 e85 e82 e83
    generalize w' = W9 at *
    obtain ⟨c3, hc3⟩ : ∃ x, kidMore d2 ⟨#[47, 97]⟩ v1 = x := ⟨_, rfl⟩
    have hno := HNO.out
    rw [hc3] at hno
    have hgm : GC W9 c3 := hno.own.gc (HM.out.ext (HXR.out.trans hno.ext)) (by rw [← hc3]; exact kid_right HDG.out.1 HS0.out (by have := HKN.out; omega) (by decide)) (by rw [← hc3]; exact kid_fit HDG.out.2 HS0.out (by unfold SzB; decide))
    have hfm : many ≤ factC c3 k := by rw [← hc3]; exact HFM.out _
    have hff := factor_any c3 k W9 hgm HIK.out
    generalize factC c3 k = f3 at hfm hff
    have hge : decide (many ≤ f3) = true := decide_eq_true hfm
    have hbx := hno.own.box
    have q1 := HSVC.out W9 HZ6.out
    have q2 := HK0.out W9 HZ6.out
    have q3 := HL0.out
    have q4 : (0 : Int) < (c2.S.length : Int) := by omega
    have hk3 : decide ((3 : Int) < (kl : Int)) = false := decide_eq_false (by have := HKL.out; omega)
    have HXN := hide (HX6.out.trans HZ6.out)
    clear HNO hno hgm hfm
    go_wp2_with (first | (refine BigFrame.wpList_want (by rfl) fun K hK => ?_; refine wp_load_mid 60 (.tmp 14) rfl b14 0 rfl (encC c3) cd hbx.range hcd1 hcd2 Tryd.confSize ?_; refine hK _ _ ?_; simp only [Act.put]))
    refine hff.mono ?_
    rintro e w11 ⟨rfl, E11⟩
    clear hbx hff q1 q2
    go_wp2_with fail
    refine (lives33_any w11 (HM.out.ext (HXN.out.trans E11))).mono ?_
    rintro e w12 ⟨rfl, E12⟩
    have HZ := hide (HXN.out.trans (E11.trans E12))
    clear E11 E12
    go_wp2_with fail
    go_ret
    exact ⟨rfl, HZ.out⟩
end Go.Proofs.YtceaeiaoanhlnaaDoor
