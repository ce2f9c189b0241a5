/- Merged texts (GkT, GkU). -/
import Derived.Test.YtceaeiaoanhlnaaGreatDoorZcbe
import Derived.Test.YtceaeiaoanhlnaaGreatDoorZgqe
import Derived.BigFrame
import Derived.Test.YtceaeiaoanhlnaaGreatDoorZcye
namespace Go.Proofs.YtceaeiaoanhlnaaGreatDoor
open Go.ChangeShapes Go.WideShapes Go.ChangeAt Go.RowKit Go.Lib Go.Shelf
theorem flat_setG {α : Type} {enc : α → List Value} {k : Nat} (hk : ∀ x, (enc x).length = k) (u : Value) (x' : α) (j : Nat) (hj : j < k) : ∀ (xs : List α) (i : Nat) (hi : i < xs.length), enc x' = (enc xs[i]).set j u → (xs.flatMap enc).set (i * k + j) u = (xs.set i x').flatMap enc
 | [], _, hi, _ => absurd hi (Nat.not_lt_zero _)
 | y :: ys, 0, _, he => by
  show (enc y ++ ys.flatMap enc).set (0 * k + j) u = enc x' ++ ys.flatMap enc
  rw [Nat.zero_mul, Nat.zero_add, List.set_append_left _ _ (by rw [hk]; exact hj), he]
  rfl
 | y :: ys, i + 1, hi, he => by
  show (enc y ++ ys.flatMap enc).set ((i + 1) * k + j) u = enc y ++ (ys.set i x').flatMap enc
  rw [List.set_append_right _ _ (by rw [hk, Nat.succ_mul]; omega), hk, show (i + 1) * k + j - k = i * k + j by rw [Nat.succ_mul]; omega, flat_setG hk u x' j hj ys i (by simpa using hi) he]
theorem owns_set1G {α : Type} {enc : α → List Value} {k : Nat} (hk : ∀ x, (enc x).length = k) {base n cap g : Nat} {e : TypeId} {w : World} {xs : List α} (h : w.ownsRow base e k (.slice (some ⟨g, 0, none⟩) n cap) n (xs.flatMap enc)) (i j : Nat) (hi : i < xs.length) (hj : j < k) (u : Value) (x' : α) (he : enc x' = (enc xs[i]).set j u) :
  (w.setCell ⟨g, i * k + j, none⟩ u).ownsRow base e k (.slice (some ⟨g, 0, none⟩) n cap) n ((xs.set i x').flatMap enc) := by
 have := (h.stored (i * k + j) u).1
 rw [← flat_setG hk u x' j hj xs i hi he]
 exact this
theorem keeps_setCellsG (b : Nat) : ∀ (vs : List Value) (o : Nat) (w : World), Keeps (fun g => g = b) w (w.setCells b o vs)
 | [], _, w => Keeps.refl _ w
 | v :: r, o, w => (Keeps.of_set (X := fun g => g = b) w b o v rfl).trans (keeps_setCellsG b r (o + 1) _)
theorem encC_oneG {B : Nat} {w : World} {c : ConfD} (h : ConfOwn B w c) : ∀ u ∈ encC c, u.oneCell' = true := by
 obtain ⟨a1, c1, h1⟩ := owns_shape h.s
 obtain ⟨a2, c2, h2⟩ := owns_shape h.e
 obtain ⟨a3, c3, h3⟩ := owns_shape h.r
 obtain ⟨a4, c4, h4⟩ := owns_shape h.t
 intro u hu
 unfold encC at hu
 rw [h1, h2, h3, h4] at hu
 simp only [List.mem_cons, List.not_mem_nil, or_false] at hu
 rcases hu with rfl | rfl | rfl | rfl | rfl | rfl | rfl | rfl | rfl | rfl | rfl | rfl | rfl | rfl | rfl | rfl | rfl | rfl | rfl | rfl <;> rfl
theorem owns_monoG {w : World} {B B' : Nat} {e : TypeId} {size n : Nat} {v : Value} {xs : List Value} (h : w.ownsRow B e size v n xs) (hB : B' ≤ B) : w.ownsRow B' e size v n xs := by
 obtain ⟨h1, h2⟩ := h
 refine ⟨h1, ?_⟩
 rcases h2 with h2 | ⟨g, cap, cur, hv, hg, r⟩
 ·exact .inl h2
 ·exact .inr ⟨g, cap, cur, hv, by omega, r⟩
theorem ConfOwn.monoG {B B' : Nat} {w : World} {c : ConfD} (h : ConfOwn B w c) (hB : B' ≤ B) : ConfOwn B' w c :=
 ⟨owns_monoG h.s hB, fun s hs => owns_monoG (h.k s hs) hB, owns_monoG h.e hB, owns_monoG h.r hB, fun r hr => ⟨owns_monoG (h.rr r hr).1 hB, owns_monoG (h.rr r hr).2.1 hB, owns_monoG (h.rr r hr).2.2.1 hB, owns_monoG (h.rr r hr).2.2.2 hB⟩, owns_monoG h.t hB⟩
/-- an own row with something in it lies in a block of its own -/
theorem owns_block {w : World} {B n k : Nat} {e : TypeId} {v : Value} {xs : List Value} (h : w.ownsRow B e k v n xs) (hn : 0 < n) : ∃ g cap, v = .slice (some ⟨g, 0, none⟩) n cap ∧ B ≤ g := by
 rcases h.2 with ⟨-, h0⟩ | ⟨g, cap, cur, hv, hg, -⟩
 ·omega
 ·exact ⟨g, cap, hv, hg⟩
/-- a configuration in its own box, its rows its own -/
structure OwnC (B : Nat) (w : World) (b : Nat) (c : ConfD) : Prop where
 box : BoxC w b c
 own : ConfOwn B w c
section
variable {B b : Nat} {w w' : World} {c : ConfD}
theorem OwnC.ext (h : OwnC B w b c) (e : Ext w w') : OwnC B w' b c := ⟨h.box.ext e, h.own.ext e⟩
/-- a number of the box -/
theorem OwnC.setN (h : OwnC B w b c) (j : Nat) (u : Value) (c' : ConfD) (he : encC c' = (encC c).set j u) (h1 : c'.sv = c.sv ∧ c'.S = c.S) (h2 : c'.ev = c.ev ∧ c'.E = c.E) (h3 : c'.rv = c.rv ∧ c'.R = c.R) (h4 : c'.tv = c.tv ∧ c'.T = c.T) : OwnC B (w.setCell ⟨b, j, none⟩ u) b c' := by
 have hks := Keeps.of_set (X := fun g => g = b) w b j u rfl
 have ho := h.own.keepT hks (OfT.one h.box) (by decide) (by decide) (by decide) (by decide) (by decide) (by decide) (by decide)
 refine ⟨h.box.set j u he, ?_⟩
 obtain ⟨a, bb, c0, d, e, f⟩ := ho
 exact ⟨by rw [h1.1, h1.2]; exact a, by rw [h1.2]; exact bb, by rw [h2.1, h2.2]; exact c0, by rw [h3.1, h3.2]; exact d, by rw [h3.2]; exact e, by rw [h4.1, h4.2]; exact f⟩
theorem OwnC.keepBox {X : Nat → Prop} {T : TypeId} (h : OwnC B w b c) (hks : Keeps X w w') (hof : OfT w X T) (hT : T ≠ 30) : BoxC w' b c := by
 refine h.box.keep (hks.block b h.box.lt fun e => ?_)
 obtain ⟨cs, f, hg⟩ := hof b e
 have hb := h.box
 unfold BoxC at hb
 rw [hg] at hb
 injection hb with hb
 injection hb with h1 h2 h3
 exact hT h2
/-- a cell of a service -/
theorem OwnC.setS (h : OwnC B w b c) {g cap : Nat} (hv : c.sv = .slice (some ⟨g, 0, none⟩) c.S.length cap) (i : Nat) (hi : i < c.S.length) (j : Nat) (hj : j < 7) (u : Value) (x' : SvcD) (he : encV x' = (encV c.S[i]).set j u) (hk : x'.kv = c.S[i].kv ∧ x'.K = c.S[i].K ∨ x'.kv = .slice none 0 0 ∧ x'.K = []) :
  OwnC B (w.setCell ⟨g, i * 7 + j, none⟩ u) b { c with S := c.S.set i x' } := by
 have hks := Keeps.of_set (X := fun q => q = g) w g (i * 7 + j) u rfl
 obtain ⟨csg, fz, hgc⟩ := ownsRow_kind h.own.s g (by rw [hv]; rfl)
 have hof : OfT w (fun q => q = g) 62 := OfT.one hgc
 have hset : (w.setCell ⟨g, i * 7 + j, none⟩ u).ownsRow B 62 7 (.slice (some ⟨g, 0, none⟩) c.S.length cap) c.S.length ((c.S.set i x').flatMap encV) := owns_set1G encV_len (by have := h.own.s; rw [hv] at this; exact this) i j hi hj u x' he
 have hlen : (c.S.set i x').length = c.S.length := List.length_set
 refine ⟨h.keepBox hks hof (by decide), ⟨?_, fun s hs => ?_, owns_keepT h.own.e hks hof (by decide), owns_keepT h.own.r hks hof (by decide), fun r hr => (h.own.rr r hr).keepT hks hof (by decide) (by decide) (by decide), owns_keepT h.own.t hks hof (by decide)⟩⟩
 ·show World.ownsRow _ _ _ _ c.sv (c.S.set i x').length _
  rw [hlen, hv]
  exact hset
 ·rcases List.mem_or_eq_of_mem_set hs with hs | rfl
  ·exact owns_keepT (h.own.k s hs) hks hof (by decide)
  ·rcases hk with ⟨h1, h2⟩ | ⟨h1, h2⟩
   ·rw [h1, h2]
    exact owns_keepT (h.own.k _ (List.getElem_mem hi)) hks hof (by decide)
   ·rw [h1, h2]
    exact ⟨rfl, .inl ⟨rfl, rfl⟩⟩
/-- a number of a rule -/
theorem OwnC.setR (h : OwnC B w b c) {g cap : Nat} (hv : c.rv = .slice (some ⟨g, 0, none⟩) c.R.length cap) (i : Nat) (hi : i < c.R.length) (j : Nat) (hj : j < 19) (u : Value) (x' : RuleD) (he : encR x' = (encR c.R[i]).set j u) (hk : RuleOwn B w c.R[i] → RuleOwn B w x') :
  OwnC B (w.setCell ⟨g, i * 19 + j, none⟩ u) b { c with R := c.R.set i x' } := by
 have hks := Keeps.of_set (X := fun q => q = g) w g (i * 19 + j) u rfl
 obtain ⟨csg, fz, hgc⟩ := ownsRow_kind h.own.r g (by rw [hv]; rfl)
 have hof : OfT w (fun q => q = g) 54 := OfT.one hgc
 have hset : (w.setCell ⟨g, i * 19 + j, none⟩ u).ownsRow B 54 19 (.slice (some ⟨g, 0, none⟩) c.R.length cap) c.R.length ((c.R.set i x').flatMap encR) := owns_set1G encR_len (by have := h.own.r; rw [hv] at this; exact this) i j hi hj u x' he
 have hlen : (c.R.set i x').length = c.R.length := List.length_set
 refine ⟨h.keepBox hks hof (by decide), ⟨owns_keepT h.own.s hks hof (by decide), fun s hs => owns_keepT (h.own.k s hs) hks hof (by decide), owns_keepT h.own.e hks hof (by decide), ?_, fun r hr => ?_, owns_keepT h.own.t hks hof (by decide)⟩⟩
 ·show World.ownsRow _ _ _ _ c.rv (c.R.set i x').length _
  rw [hlen, hv]
  exact hset
 ·rcases List.mem_or_eq_of_mem_set hr with hr | rfl
  ·exact (h.own.rr r hr).keepT hks hof (by decide) (by decide) (by decide)
  ·exact (hk (h.own.rr _ (List.getElem_mem hi))).keepT hks hof (by decide) (by decide) (by decide)
/-- a configuration stored into a new box -/
theorem OwnC.store {Z : Array Value} (hZ : Z.size = 20) (ho : ConfOwn B w c) : OwnC B ((w.alloc (.cells Z 30)).setCells w.heap.size 0 (encC c)) w.heap.size c ∧ Ext w ((w.alloc (.cells Z 30)).setCells w.heap.size 0 (encC c)) := by
 have hbz := heap_alloc_new w (.cells Z 30)
 have hxz : Ext w (w.alloc (.cells Z 30)) := (Below.refl _ _).alloc (Nat.le_refl _) _
 have hth : (w.alloc (.cells Z 30)).there w.heap.size 0 20 := fun q hq => by
  rw [Nat.zero_add]
  refine ⟨?_, by simp only [World.frozen?]; rw [hbz]; simp⟩
  simp only [World.cell?, hbz]
  simp [hq, hZ]
 have hrs := World.rangeAt_setCells_same (w.alloc (.cells Z 30)) w.heap.size 0 (encC c) hth
 obtain ⟨cs, hcs1, hcs2⟩ := setCells_block w.heap.size 30 (0, 0) (encC c) 0 (w.alloc (.cells Z 30)) _ hbz
 have hk5 := keeps_setCellsG w.heap.size (encC c) 0 (w.alloc (.cells Z 30))
 exact ⟨⟨BoxC.of_range hcs1 (by rw [hcs2]; exact hZ) hrs, (ho.ext hxz).keepT hk5 (OfT.one hbz) (by decide) (by decide) (by decide) (by decide) (by decide) (by decide) (by decide)⟩, Keeps.ext hxz hk5 (fun g hg => by omega)⟩
theorem OwnC.there {Z : Array Value} (hZ : Z.size = 20) (w : World) : (w.alloc (.cells Z 30)).there w.heap.size 0 20 := fun q hq => by
 have hbz := heap_alloc_new w (.cells Z 30)
 rw [Nat.zero_add]
 refine ⟨?_, by simp only [World.frozen?]; rw [hbz]; simp⟩
 simp only [World.cell?, hbz]
 simp [hq, hZ]
theorem OwnC.gc (h : OwnC B w b c) (hm : MaxV w) (hc : chkC c = 0) (hf : ConfFit c) : GC w c := ⟨h.own.ok, hm, hc, hf⟩
end
end Go.Proofs.YtceaeiaoanhlnaaGreatDoor
namespace Go.Proofs.YtceaeiaoanhlnaaGreatDoor
open Go.ChangeShapes Go.WideShapes Go.ChangeAt Go.RowKit Go.Lib Go.Shelf Go.Maps
theorem cell_rowG {w : World} {base n g c : Nat} {e : TypeId} {size : Nat} {α : Type} {enc : α → List Value} {xs : List α} (hk : ∀ x, (enc x).length = size) (h : w.ownsRow base e size (.slice (some ⟨g, 0, none⟩) n c) n (xs.flatMap enc)) (i : Nat) (hi : i < xs.length) (j : Nat) (u : Value) (hu : (enc xs[i])[j]? = some u) : w.cell? ⟨g, i * size + j, none⟩ = some u ∧ w.frozen? ⟨g, i * size + j, none⟩ = false := by
 have := h.cells (g := g) rfl (i * size + j) u (getElem?_flatMap_enc hk xs i j xs[i] u (List.getElem?_eq_getElem hi) hu)
 rw [add_cell] at this
 exact ⟨this, h.frozenAt _⟩
def liveC (v1 v2 v3 v4 k h p s d : Value) : ConfD := { genC [] with sv := v1, ev := v2, rv := v3, tv := v4, S := [{ svcN [] 1 with kv := k, work := 3 }], R := [{ lastN 0 with hv := h, pv := p, sv := s, dv := d }], hop := 2, purse := 4 }
section
variable (v1 v2 v3 v4 k h p s d : Value)
theorem liveC_kids : kidsG (liveC v1 v2 v3 v4 k h p s d) 1 = [] := by kernel_rfl
theorem liveC_walks : lvl (kidsG (liveC v1 v2 v3 v4 k h p s d)) 1 5 1 = 1 := by kernel_rfl
theorem liveC_fact : factC (liveC v1 v2 v3 v4 k h p s d) 1 = 5 := by kernel_rfl
theorem liveC_alone : aloneC (liveC v1 v2 v3 v4 k h p s d) ⟨#[47]⟩ = (9, true) := by kernel_rfl
theorem liveC_chk : chkC (liveC v1 v2 v3 v4 k h p s d) = 0 := by kernel_rfl
end
/-- the smallest mesh -/
theorem live_shape {c : ConfD} (h : c.core = genC []) : ∃ k hh p s d, c.S = [{ svcN [] 1 with kv := k }] ∧ c = { genC [] with sv := c.sv, ev := c.ev, rv := c.rv, tv := c.tv, S := [{ svcN [] 1 with kv := k }], R := [{ lastN 0 with hv := hh, pv := p, sv := s, dv := d }] } := by
 have hS : c.S.map SvcD.core = [svcN [] 1] := congrArg ConfD.S h
 have hR : c.R.map RuleD.core = [lastN 0] := congrArg ConfD.R h
 obtain ⟨s, hs1, hs2⟩ := List.map_eq_singleton_iff.1 hS
 obtain ⟨r, hr1, hr2⟩ := List.map_eq_singleton_iff.1 hR
 have e4 : c.S = [{ svcN [] 1 with kv := s.kv }] := by rw [hs1, ← hs2]; rfl
 have e5 : c.R = [{ lastN 0 with hv := r.hv, pv := r.pv, sv := r.sv, dv := r.dv }] := by rw [hr1, ← hr2]; rfl
 have e1 : c = { c.core with sv := c.sv, S := c.S, ev := c.ev, rv := c.rv, R := c.R, tv := c.tv } := rfl
 rw [h] at e1
 exact ⟨s.kv, r.hv, r.pv, r.sv, r.dv, e4, e1.trans (by rw [e4, e5])⟩
theorem intsNilG (w : World) : Ints w (.slice none 0 0) [] := ⟨by simp, none, 0, rfl, by simp, fun i x hi => by simp at hi⟩
set_option maxRecDepth 100000 in
set_option maxHeartbeats 16000000 in
/-- the document's example -/
theorem lives33_any (w : World) (hm : MaxV w) : Calls Tryz.prog 16 #[] w fun e w' => e = .returned (.bool true) ∧ Ext w w' := by
 obtain ⟨cd, hcd1, hcd2⟩ := Tryz.confDesc
 have HM := hide hm
 clear hm
 go_enter Tryz.func16, Tryz.ntmps16
 go_wp2_with fail
 refine (conf_any [] (.slice none 0 0) w (intsNilG w) (fun _ h => by cases h)).mono ?_
 rintro e W1 ⟨c, rfl, hc, ho, E1⟩
 have hth := OwnC.there (Z := #[.slice none 0 0, .slice none 0 0, .slice none 0 0, .slice none 0 0, .int .i64 0, .int .i64 0, .int .i64 0, .int .i64 0, .int .i64 0, .int .i64 0, .int .i64 0, .int .i64 0, .int .i64 0, .int .i64 0, .int .i64 0, .int .i64 0, .int .i64 0, .int .i64 0, .int .i64 0, .int .i64 0]) rfl W1
 go_upto_region 2 with (refine wpList_store_mid rfl 30 (.tmp 1) (.tmp 4) rfl W1.heap.size 0 (encC c).toArray rfl rfl hth Tryz.confSize (all_oneCell_toArray (encC_oneG ho)) ?_)
 obtain ⟨h2, E2⟩ := OwnC.store (Z := #[.slice none 0 0, .slice none 0 0, .slice none 0 0, .slice none 0 0, .int .i64 0, .int .i64 0, .int .i64 0, .int .i64 0, .int .i64 0, .int .i64 0, .int .i64 0, .int .i64 0, .int .i64 0, .int .i64 0, .int .i64 0, .int .i64 0, .int .i64 0, .int .i64 0, .int .i64 0, .int .i64 0]) rfl ho
 have hge : w.heap.size ≤ W1.heap.size := E1.size
 show Code.wp _ _ _ _ ((W1.alloc (.cells #[.slice none 0 0, .slice none 0 0, .slice none 0 0, .slice none 0 0, .int .i64 0, .int .i64 0, .int .i64 0, .int .i64 0, .int .i64 0, .int .i64 0, .int .i64 0, .int .i64 0, .int .i64 0, .int .i64 0, .int .i64 0, .int .i64 0, .int .i64 0, .int .i64 0, .int .i64 0, .int .i64 0] 30)).setCells W1.heap.size 0 (encC c))
 generalize (W1.alloc (.cells #[.slice none 0 0, .slice none 0 0, .slice none 0 0, .slice none 0 0, .int .i64 0, .int .i64 0, .int .i64 0, .int .i64 0, .int .i64 0, .int .i64 0, .int .i64 0, .int .i64 0, .int .i64 0, .int .i64 0, .int .i64 0, .int .i64 0, .int .i64 0, .int .i64 0, .int .i64 0, .int .i64 0] 30)).setCells W1.heap.size 0 (encC c) = W2 at h2 E2 ⊢
 obtain ⟨b1, hb1⟩ : ∃ b, W1.heap.size = b := ⟨_, rfl⟩
 rw [hb1] at h2 hge ⊢
 obtain ⟨k, hh, p, s, d, hcS, hcs⟩ := live_shape hc
 have hfit : ConfFit c := (good_conf hc).1
 obtain ⟨g, cap, hsv, hg⟩ := owns_block h2.own.s (by rw [hcS]; exact Nat.one_pos)
 rw [hcS] at hsv
 have hown := h2.own.s
 rw [hsv, hcS] at hown
 have z0 : W2.cell? ⟨b1, 0, none⟩ = some (.slice (some ⟨g, 0, none⟩) 1 cap) := h2.box.cell 0 _ (by show some c.sv = _; rw [hsv]; rfl)
 obtain ⟨z1, z2⟩ := cell_rowG encV_len hown 0 Nat.one_pos 2 _ rfl
 have z1' : W2.cell? ⟨g, 2, none⟩ = some (.int .i64 1) := z1
 have z2' : W2.frozen? ⟨g, 2, none⟩ = false := z2
 have h3 := h2.setS (g := g) (cap := cap) (by rw [hcS]; exact hsv) 0 (by rw [hcS]; exact Nat.one_pos) 2 (by decide) (.int .i64 3) { svcN [] 1 with kv := k, work := 3 } (by simp only [hcS]; rfl) (.inl (by simp only [hcS]; exact ⟨rfl, rfl⟩))
 have E3 : Ext w (W2.setCell ⟨g, 2, none⟩ (.int .i64 3)) := Keeps.ext (E1.trans E2) (Keeps.of_set (X := fun q => q = g) W2 g 2 (.int .i64 3) rfl) (fun q hq => by rw [hq]; exact hg)
 have H3 := hide (show OwnC w.heap.size (W2.setCell ⟨g, 2, none⟩ (.int .i64 3)) b1 _ from h3)
 have HE3 := hide E3
 have HCS := hide hcs
 have HF := hide hfit
 have HG := hide hge
 clear h3 E3 hown hcs hfit hc ho E1 E2 hth h2 z1 z2 hg hsv hge hb1
 go_upto_region 3 with (fail)
 generalize W2.setCell ⟨g, 2, none⟩ (.int .i64 3) = W3 at H3 HE3 ⊢
 have z3 : W3.cell? ⟨b1, 15, none⟩ = some (.int .i64 c.hop) := H3.out.box.cell 15 _ rfl
 have z4 : W3.frozen? ⟨b1, 15, none⟩ = false := H3.out.box.frozen 15
 have h4 := H3.out.setN 15 (.int .i64 2) { c with S := c.S.set 0 { svcN [] 1 with kv := k, work := 3 }, hop := 2 } rfl ⟨rfl, rfl⟩ ⟨rfl, rfl⟩ ⟨rfl, rfl⟩ ⟨rfl, rfl⟩
 have E4 : Ext w (W3.setCell ⟨b1, 15, none⟩ (.int .i64 2)) := Keeps.ext HE3.out (Keeps.of_set (X := fun q => q = b1) W3 b1 15 (.int .i64 2) rfl) (fun q hq => by rw [hq]; exact HG.out)
 have H4 := hide h4
 have HE4 := hide E4
 clear h4 E4 z0 z1' z2' H3 HE3
 go_upto_region 4 with (fail)
 generalize W3.setCell ⟨b1, 15, none⟩ (.int .i64 2) = W4 at H4 HE4 ⊢
 have z5 : W4.cell? ⟨b1, 17, none⟩ = some (.int .i64 c.purse) := H4.out.box.cell 17 _ rfl
 have z6 : W4.frozen? ⟨b1, 17, none⟩ = false := H4.out.box.frozen 17
 have h5 := H4.out.setN 17 (.int .i64 4) { c with S := c.S.set 0 { svcN [] 1 with kv := k, work := 3 }, hop := 2, purse := 4 } rfl ⟨rfl, rfl⟩ ⟨rfl, rfl⟩ ⟨rfl, rfl⟩ ⟨rfl, rfl⟩
 have E5 : Ext w (W4.setCell ⟨b1, 17, none⟩ (.int .i64 4)) := Keeps.ext HE4.out (Keeps.of_set (X := fun q => q = b1) W4 b1 17 (.int .i64 4) rfl) (fun q hq => by rw [hq]; exact HG.out)
 have H5 := hide h5
 have HE5 := hide E5
 clear h5 E5 z3 z4 H4 HE4
 go_upto_region 5 with (fail)
 generalize W4.setCell ⟨b1, 17, none⟩ (.int .i64 4) = W5 at H5 HE5 ⊢
 have hcl : ({ c with S := c.S.set 0 { svcN [] 1 with kv := k, work := 3 }, hop := 2, purse := 4 } : ConfD) = liveC c.sv c.ev c.rv c.tv k hh p s d := by
  have e1 := HCS.out
  rw [hcS]
  conv => lhs; rw [e1]
  rfl
 obtain ⟨c4, hc4⟩ : ∃ x, liveC c.sv c.ev c.rv c.tv k hh p s d = x := ⟨_, rfl⟩
 have f1 := liveC_kids c.sv c.ev c.rv c.tv k hh p s d
 have f2 := liveC_walks c.sv c.ev c.rv c.tv k hh p s d
 have f3 := liveC_fact c.sv c.ev c.rv c.tv k hh p s d
 have f4 := liveC_alone c.sv c.ev c.rv c.tv k hh p s d
 have f5 := liveC_chk c.sv c.ev c.rv c.tv k hh p s d
 have f6 : ConfFit (liveC c.sv c.ev c.rv c.tv k hh p s d) := by
  have e1 := HF.out
  rw [HCS.out] at e1
  refine ⟨fun t ht => ?_, e1.2.1, e1.2.2.1, e1.2.2.2⟩
  have := e1.1 _ (List.mem_singleton.2 rfl)
  rw [List.mem_singleton.1 ht]
  exact ⟨this.1, (by decide : I64 3), this.2.2⟩
 have h6 := H5.out
 rw [hcl, hc4] at h6
 rw [hc4] at f1 f2 f3 f4 f5 f6
 have HBX := hide h6.box
 have HGC := hide (h6.gc (HM.out.ext HE5.out) f5 f6)
 have F1 := hide f1
 have F2 := hide f2
 have F3 := hide f3
 have F4 := hide f4
 clear f1 f2 f3 f4 f5 f6 h6 hcl hc4 z5 z6 H5 HCS HF hcS
 go_wp2_with (first | (refine BigFrame.wpList_want (by rfl) fun K hK => ?_; refine wp_load_mid 30 (.tmp 1) rfl b1 0 rfl (encC c4) cd HBX.out.range hcd1 hcd2 Tryz.confSize ?_; refine hK _ _ ?_; simp only [Act.put]))
 refine (alone_any c4 ⟨#[47]⟩ W5 HGC.out (by unfold SzB; decide)).mono ?_
 rintro e W6 ⟨rfl, E6⟩
 rw [F4.out]
 have HE6 := hide E6
 have hbx := HBX.out.ext E6
 clear E6
 go_wp2_with (first | (refine BigFrame.wpList_want (by rfl) fun K hK => ?_; refine wp_load_mid 30 (.tmp 1) rfl b1 0 rfl (encC c4) cd hbx.range hcd1 hcd2 Tryz.confSize ?_; refine hK _ _ ?_; simp only [Act.put]))
 refine (kids_any c4 1 W6 (HGC.out.ext HE6.out)).mono ?_
 rintro e W7 ⟨v7, rfl, hkv, E7⟩
 rw [F1.out] at hkv
 obtain ⟨vs7, hkv, -⟩ := hkv
 obtain ⟨a7, n7, rfl⟩ := owns_shape hkv
 have HE7 := hide (HE6.out.trans E7)
 have hbx := HBX.out.ext HE7.out
 clear E7 hkv
 go_wp2_with (first | (refine BigFrame.wpList_want (by rfl) fun K hK => ?_; refine wp_load_mid 30 (.tmp 1) rfl b1 0 rfl (encC c4) cd hbx.range hcd1 hcd2 Tryz.confSize ?_; refine hK _ _ ?_; simp only [Act.put]))
 refine (gwalks_any c4 1 1 5 W7 (HGC.out.ext HE7.out) (by decide) (by decide) (by decide)).mono ?_
 rintro e W8 ⟨rfl, E8⟩
 rw [F2.out]
 have HE8 := hide (HE7.out.trans E8)
 have hbx := HBX.out.ext HE8.out
 clear E8
 go_wp2_with (first | (refine BigFrame.wpList_want (by rfl) fun K hK => ?_; refine wp_load_mid 30 (.tmp 1) rfl b1 0 rfl (encC c4) cd hbx.range hcd1 hcd2 Tryz.confSize ?_; refine hK _ _ ?_; simp only [Act.put]))
 refine (factor_any c4 1 W8 (HGC.out.ext HE8.out) (by decide)).mono ?_
 rintro e W9 ⟨rfl, E9⟩
 rw [F3.out]
 have HZ := hide (HE5.out.trans (HE8.out.trans E9))
 clear E9 hbx
 go_wp2_with fail
 go_ret
 exact ⟨rfl, HZ.out⟩
end Go.Proofs.YtceaeiaoanhlnaaGreatDoor
