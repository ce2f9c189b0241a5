import Derived.StringKeys
import Derived.Test.YtceaeiaoanhlnaaGreatDoorGkHe
namespace Go.Proofs.YtceaeiaoanhlnaaGreatDoor
open Go.ChangeShapes Go.WideShapes Go.ChangeAt Go.RowKit Go.Lib Go.Shelf Go.Maps
def litS (p : ByteArray) : Lit := Lit.string p.data.toList
theorem strLit_inj (x y : ByteArray) (h : litS x = litS y) : x = y := by
 unfold litS at h
 have h1 : x.data.toList = y.data.toList := by simpa using h
 have h2 : x.data = y.data := Array.toList_inj.1 h1
 cases x
 cases y
 simpa using h2
theorem Keeps.trans' {X Y : Nat → Prop} {a b c : World} (h : Keeps X a b) (k : Keeps Y b c) (hxy : ∀ q, Y q → q < a.heap.size → X q) : Keeps X a c :=
 ⟨k.os.trans h.os, k.tape.trans h.tape, k.output.trans h.output, Nat.le_trans h.size k.size, fun q hq hx => (k.block q (Nat.lt_of_lt_of_le hq h.size) (fun hy => hx (hxy q hy hq))).trans (h.block q hq hx)⟩
def inL {α : Type} [DecidableEq α] (l : List α) (p : α) : Bool := decide (p ∈ l)
theorem inL_iff {α : Type} [DecidableEq α] (l : List α) (p : α) : inL l p = true ↔ p ∈ l := by unfold inL; rw [decide_eq_true_eq]
theorem inL_snoc {α : Type} [DecidableEq α] (l : List α) (p q : α) : inL (l ++ [p]) q = if q = p then true else inL l q := by
 unfold inL
 by_cases h : q = p <;> simp [h]
theorem keyedS : Keyed Tryz.prog 9 := string_keyed Tryz.underlying9
theorem keyS {p : ByteArray} (h : SzB p) : keyOf Tryz.prog 9 (.string p) = some (litS p) := Go.WideMaps.keyOf_string_mk Tryz.underlying9 h
theorem zeroB (w : World) : (zeroValue 4).run Tryz.prog w = .ok (.bool false) w := by kernel_rfl
theorem gInfoS : (Tryz.prog.info? 9).map (fun i => (i.size, i.bytes, i.zero.map fun z => z.cells.size)) = some (1, 16, some 1) := by kernel_rfl
def seenF (l : List ByteArray) (p : ByteArray) : Option Value := if inL l p = true then some (.bool true) else none
/-- what onWay keeps: the list l in the box bl, the map of what was seen in the box bs; all in blocks from B on -/
structure WyM (B : Nat) (w : World) (bs bl bm : Nat) (v : Value) (l : List ByteArray) : Prop where
 hs : B ≤ bs
 hl : B ≤ bl
 hm : B ≤ bm
 hB : B ≤ w.heap.size
 sb : w.heap[bs]? = some (.cells #[.map (some bm)] 115 (0, 0))
 lb : w.heap[bl]? = some (.cells #[v] 42 (0, 0))
 row : w.ownsRow B 9 1 v l.length (l.flatMap encS)
 map : MapV litS w 9 bm l.length (seenF l)
theorem WyM.ext {B : Nat} {w w' : World} {bs bl bm : Nat} {v : Value} {l : List ByteArray} (h : WyM B w bs bl bm v l) (e : Ext w w') : WyM B w' bs bl bm v l :=
 ⟨h.hs, h.hl, h.hm, Nat.le_trans h.hB e.size, (e.block bs (Array.getElem?_eq_some_iff.1 h.sb).1).trans h.sb, (e.block bl (Array.getElem?_eq_some_iff.1 h.lb).1).trans h.lb, owns_ext h.row e, h.map.ext e⟩
/-- the blocks that are written -/
def WX (bl bm : Nat) (v : Value) (q : Nat) : Prop := q = bl ∨ q = bm ∨ v.ownBlock = some q
/-- a row of numbers stands -/
theorem WyM.ints {B : Nat} {w w' : World} {bs bl bm : Nat} {v u : Value} {l : List ByteArray} {base n : Nat} {xs : List Value} (h : WyM B w bs bl bm v l) (k : Keeps (WX bl bm v) w w') (ho : w.ownsRow base 3 1 u n xs) : w'.ownsRow base 3 1 u n xs :=
 owns_keeps ho k fun g hg hx => by
  rcases hx with rfl | rfl | hx
  ·exact absurd (owns_type ho hg h.lb) (by decide)
  ·obtain ⟨es, c, hq⟩ := h.map.block
   obtain ⟨cs, f, hc⟩ := ownsRow_kind ho g hg
   rw [hc] at hq
   cases hq
  ·obtain ⟨cs, f, hc⟩ := ownsRow_kind ho g hg
   exact absurd (owns_type h.row hx hc) (by decide)
/-- one path more: put into the map, appended, the list stored -/
theorem WyM.add {B : Nat} {w w2 w3 : World} {bs bl bm : Nat} {v v' : Value} {l : List ByteArray} {p : ByteArray} (h : WyM B w bs bl bm v l) (ht : w.mapTurned w2 bm) (hm2 : MapV litS w2 9 bm (l.length + 1) (fun q => if q = p then some (.bool true) else seenF l q))
  (ho : w3.ownsRow B 9 1 v' (l.length + 1) (l.flatMap encS ++ [.string p])) (hk : Keeps (fun q => v.ownBlock = some q) w2 w3) : WyM B (w3.setCell ⟨bl, 0, none⟩ v') bs bl bm v' (l ++ [p]) ∧ Below B w (w3.setCell ⟨bl, 0, none⟩ v') ∧ Keeps (WX bl bm v) w (w3.setCell ⟨bl, 0, none⟩ v') := by
 have hX : OfM w (fun k => k = bm) := h.map.ofM
 have hT := turned_keeps ht
 have r2 := owns_keepM h.row hT hX
 have s2 := cells_keepM hT hX h.sb
 have l2 := cells_keepM hT hX h.lb
 have s3 := (hk.block bs (Array.getElem?_eq_some_iff.1 s2).1 (fun e => absurd (owns_type r2 e s2) (by decide))).trans s2
 have l3 := (hk.block bl (Array.getElem?_eq_some_iff.1 l2).1 (fun e => absurd (owns_type r2 e l2) (by decide))).trans l2
 have hbm : bm < w2.heap.size := hm2.lt
 have m3 : MapV litS w3 9 bm (l.length + 1) _ := hm2.keepB (hk.block bm hbm (fun e => by
  obtain ⟨cs, f, hc⟩ := ownsRow_kind r2 bm e
  obtain ⟨es, c, hq⟩ := hm2.block
  rw [hc] at hq
  cases hq))
 have hS := Keeps.of_set (X := fun q => q = bl) w3 bl 0 v' rfl
 have hne1 : bs ≠ bl := fun e => by
  rw [e, l3] at s3
  cases s3
 have hne2 : bm ≠ bl := fun e => by
  obtain ⟨es, c, hq⟩ := m3.block
  rw [e, l3] at hq
  cases hq
 have hB3 : B ≤ w3.heap.size := Nat.le_trans h.hB (Nat.le_trans hT.size hk.size)
 refine ⟨⟨h.hs, h.hl, h.hm, Nat.le_trans hB3 hS.size, (hS.block bs (Array.getElem?_eq_some_iff.1 s3).1 hne1).trans s3, ?_, ?_, ?_⟩, ?_, ?_⟩
 ·have := ArrB.set l3 0 v'
  simpa using this
 ·have := owns_keepT (v := v') (n := l.length + 1) ho hS (OfT.one l3) (by decide)
  simpa [encS] using this
 ·rw [List.length_append]
  refine (m3.keepB (hS.block bm m3.lt hne2)).congr fun q => ?_
  show (if q = p then some (Value.bool true) else seenF l q) = seenF (l ++ [p]) q
  unfold seenF
  rw [inL_snoc]
  by_cases e : q = p <;> simp [e]
 ·exact ((hT.below h.hB fun k hk => by rw [hk]; exact h.hm).trans (hk.below (Nat.le_trans h.hB hT.size) fun k hk => (r2.lt k hk).1)).trans (hS.below hB3 fun k hk => by rw [hk]; exact h.hl)
 ·exact ((hT.mono fun q hq => .inr (.inl hq)).trans (hk.mono fun q hq => .inr (.inr hq))).trans (hS.mono fun q hq => .inl hq)
set_option maxRecDepth 100000 in
set_option maxHeartbeats 8000000 in
theorem come_any (B bs bl bm : Nat) (ps l : List ByteArray) (v0 v : Value) (w : World) (h : WyM B w bs bl bm v l) (hs : ∀ X, Below B w X → Strs X v0 ps) (hz : ∀ p ∈ ps, SzB p) (hn : l.length + ps.length < 1000000) :
  Calls Tryz.prog 68 #[v0, .pointer (some ⟨bs, 0, none⟩), .pointer (some ⟨bl, 0, none⟩)] w fun e w' => e = .returned (.tuple #[]) ∧ (∃ v', WyM B w' bs bl bm v' (addNew l ps)) ∧ Below B w w' ∧ Keeps (WX bl bm v) w w' := by
 obtain ⟨hl, a, cap, rfl⟩ := (hs w (Below.refl _ _)).shape
 have HS := hide hs
 have HZ := hide hz
 have HN := hide hn
 have HW := hide h
 clear hs hz hn h hl
 go_enter Tryz.func68, Tryz.ntmps68
 go_wp2_with fail
 go_loopw [8] (fun v8 wr => ∃ (k : Nat) (v' : Value), k ≤ ps.length ∧ v8 = .int .i64 k ∧ WyM B wr bs bl bm v' (addNew l (ps.take k)) ∧ (addNew l (ps.take k)).length ≤ l.length + k ∧ Below B w wr ∧ Keeps (WX bl bm v) w wr ∧ (v'.ownBlock = v.ownBlock ∨ ∃ g, v'.ownBlock = some g ∧ w.heap.size ≤ g)) (fun k _ => ps.length - (intOf k).toNat)
 case atStart => exact ⟨0, v, Nat.zero_le _, rfl, HW.out, Nat.le_refl _, Below.refl _ _, Keeps.refl _ _, .inl rfl⟩
 case round =>
  obtain ⟨k, v1, hk, rfl, hw, hlen, hbel, hkp, hpl⟩ := hrel
  have HK := hide hw
  have HKP := hide hkp
  have HPL := hide hpl
  clear hkp hpl
  have HE := hide hbel
  clear hw hbel HW
  by_cases hlt : k < ps.length
  ·have hltz : (k : Int) < ps.length := by omega
   have hwk : IntKind.i64.wrap ((k : Int) + 1) = ((k + 1 : Nat) : Int) := by have := HN.out; rw [IntKind.wrap_i64]; omega
   obtain ⟨sb, so, rfl, hsb, z0⟩ := strs_row (HS.out wr HE.out) k hlt
   have hsn := addNew_snoc (ps.take k) ps[k] l
   rw [← take_snoc ps k hlt] at hsn
   have hzp := HZ.out ps[k] (List.getElem_mem hlt)
   generalize ps[k] = p at z0 hsn hzp
   have HSN := hide hsn
   have HLN := hide (show (addNew l (ps.take k)).length < 1000000 ∧ (addNew l (ps.take k)).length ≤ l.length + k from ⟨by have := HN.out; omega, hlen⟩)
   have HZP := hide (keyS hzp)
   clear hsn hzp hlen
   generalize addNew l (ps.take k) = L at *
   have c1 : wr.cell? ⟨bs, 0, none⟩ = some (.map (some bm)) := by simp [World.cell?, HK.out.sb]
   by_cases hp : p ∈ L
   ·have hg : (seenF L p).getD (.bool false) = .bool true := by unfold seenF; rw [if_pos ((inL_iff _ _).2 hp)]; rfl
    have HG := hide hg
    have hsn := HSN.out
    rw [if_pos hp] at hsn
    have HS2 := hide hsn
    clear hg hsn
    go_wp2_with (at_lookup; refine wpList_mv_look _ rfl _ _ _ rfl HK.out.map keyedS Tryz.underlying115 (zeroB _) rfl _ rfl HZP.out _ HG.out ?_)
    go_roundw
    case rel => exact ⟨k + 1, v1, hlt, by go_num, by rw [HS2.out]; exact HK.out, by rw [HS2.out]; have := HLN.out.2; omega, HE.out, HKP.out, HPL.out⟩
    case measure => simp [intOf]; omega
   ·have hg : (seenF L p).getD (.bool false) = .bool false := by unfold seenF; rw [if_neg (fun h => hp ((inL_iff _ _).1 h))]; rfl
    have HG := hide hg
    have hsn := HSN.out
    rw [if_neg hp] at hsn
    have HS2 := hide hsn
    clear hg hsn
    obtain ⟨va, vc, rfl⟩ := owns_shape HK.out.row
    go_upto_region 4 with (at_lookup; refine wpList_mv_look _ rfl _ _ _ rfl HK.out.map keyedS Tryz.underlying115 (zeroB _) rfl _ rfl HZP.out _ HG.out ?_)
    refine wp_region_lit ?_
    refine wpList_plain rfl fun Kq hKq => ?_
    go_simp
    refine hKq _ _ ?_
    refine wpList_plain rfl fun Kq hKq => ?_
    go_simp
    refine hKq _ _ ?_
    refine wpList_mv_put _ rfl _ _ _ _ rfl HK.out.map strLit_inj keyedS Tryz.underlying115 (by have := HLN.out.1; unfold maxLen; omega) rfl _ _ rfl rfl HZP.out ?_
    intro w2 hm2 ht2
    refine wpList_nil ?_
    have c2 : w2.cell? ⟨bl, 0, none⟩ = some (.slice va L.length vc) := by
     have := cells_keepM (turned_keeps ht2) HK.out.map.ofM HK.out.lb
     simp [World.cell?, this]
    have hrow2 := owns_keepM HK.out.row (turned_keeps ht2) HK.out.map.ofM
    have HR2 := hide hrow2
    have HM2 := hide hm2
    have HT2 := hide ht2
    have HB2 := hide (Nat.le_trans HK.out.hB ht2.grown.size)
    clear hrow2 hm2 ht2 c1
    simp only [Act.put]
    go_upto_region 5 with (fail)
    refine wp_region_lit ?_
    refine wpList_plain rfl fun Kq hKq => ?_
    go_simp
    refine hKq _ _ ?_
    refine wpList_plain rfl fun Kq hKq => ?_
    go_simp
    refine hKq _ _ ?_
    refine wpList_plain rfl fun Kq hKq => ?_
    go_simp
    refine hKq _ _ ?_
    refine wpList_app1 rfl (.tmp 18) (.tmp 20) _ 9 rfl Tryz.underlying42 gInfoS (by decide) (by decide) B _ L.length (L.flatMap encS) rfl HR2.out [.string p] rfl (by simp [Value.oneCell']) rfl HLN.out.1 HB2.out ?_
    intro v' w3 ho3 hk3 hp3
    obtain ⟨hw4, hb4, hk4⟩ := HK.out.add HT2.out HM2.out ho3 hk3
    have HKP4 := hide (show Keeps (WX bl bm v) w _ from HKP.out.trans' hk4 fun q hq hlt => by
     rcases hq with hq | hq | hq
     ·exact .inl hq
     ·exact .inr (.inl hq)
     ·rcases HPL.out with h | ⟨g, h, hg⟩
      ·exact .inr (.inr (h.symm.trans hq))
      ·rw [hq] at h
       cases h
       omega)
    have HPL4 := hide (show v'.ownBlock = v.ownBlock ∨ ∃ g, v'.ownBlock = some g ∧ w.heap.size ≤ g from by
     rcases hp3 with h | ⟨g, h, hg⟩
     ·rcases HPL.out with h2 | ⟨g, h2, hg2⟩
      ·exact .inl (h.trans h2)
      ·exact .inr ⟨g, h.trans h2, hg2⟩
     ·exact .inr ⟨g, h, Nat.le_trans (Nat.le_trans HE.out.size HT2.out.grown.size) hg⟩)
    clear hk4
    obtain ⟨va2, vc2, rfl⟩ := owns_shape ho3
    have l3 := (hk3.block bl (World.block_lt_of_cell? w2 _ c2) (fun e => absurd (owns_type HR2.out e (cells_keepM (turned_keeps HT2.out) HK.out.map.ofM HK.out.lb)) (by decide))).trans (cells_keepM (turned_keeps HT2.out) HK.out.map.ofM HK.out.lb)
    have z3 : w3.cell? ⟨bl, 0, none⟩ = some (.slice va L.length vc) := by simp [World.cell?, l3]
    have z4 : w3.frozen? ⟨bl, 0, none⟩ = false := by simp [World.frozen?, l3]
    have HW4 := hide hw4
    have HB4 := hide (HE.out.trans hb4)
    clear hw4 hb4 ho3 hk3 hp3 l3 c2
    refine wpList_plain rfl fun Kq hKq => ?_
    go_simp
    refine hKq _ _ ?_
    refine wpList_nil ?_
    go_wp2
    go_roundw
    case rel => exact ⟨k + 1, _, hlt, by go_num, by rw [HS2.out]; exact HW4.out, by rw [HS2.out, List.length_append]; have := HLN.out.2; simp; omega, HB4.out, HKP4.out, HPL4.out⟩
    case measure => simp [intOf]; omega
  ·obtain rfl : k = ps.length := by omega
   have hltz : ¬ (ps.length : Int) < ps.length := by omega
   have hks := HK.out
   rw [List.take_length] at hks
   have HF := hide hks
   clear hks HK
   go_wp2
   go_end0
   exact ⟨rfl, ⟨v1, HF.out⟩, HE.out, HKP.out⟩
theorem addNew_len {α : Type} [DecidableEq α] : ∀ (l a : List α), (addNew l a).length ≤ l.length + a.length
 | l, [] => Nat.le_refl _
 | l, x :: a => by
  show (addNew (if x ∈ l then l else l ++ [x]) a).length ≤ _
  have h := addNew_len (if x ∈ l then l else l ++ [x]) a
  by_cases e : x ∈ l
  ·rw [if_pos e] at h ⊢
   simp
   omega
  ·rw [if_neg e] at h ⊢
   simp at h ⊢
   omega
theorem flat_len {c : ConfD} (h : chkC c = 0) : ∀ (L : List Int), (L.flatMap fun id => (findS c.S id).K).length ≤ L.length * 4
 | [] => Nat.zero_le _
 | x :: L => by
  have h1 := flat_len h L
  have h2 := find_kids h x
  show ((findS c.S x).K ++ L.flatMap fun id => (findS c.S id).K).length ≤ (L.length + 1) * 4
  rw [List.length_append]
  omega
theorem wy_start (W : World) (B : Nat) (hB : W.heap.size = B) : WyM B (((W.alloc (.cells #[.slice none 0 0] 42)).alloc (.map #[] 0)).alloc (.cells #[.map (some (B + 1))] 115)) (B + 1 + 1) B (B + 1) (.slice none 0 0) [] ∧ Below B W (((W.alloc (.cells #[.slice none 0 0] 42)).alloc (.map #[] 0)).alloc (.cells #[.map (some (B + 1))] 115)) := by
 subst hB
 have e1 : Ext W (W.alloc (.cells #[.slice none 0 0] 42)) := (Below.refl _ _).alloc (Nat.le_refl _) _
 have n1 := heap_alloc_new W (.cells #[.slice none 0 0] 42)
 have z1 : (W.alloc (.cells #[.slice none 0 0] 42)).heap.size = W.heap.size + 1 := by simp
 generalize W.alloc (.cells #[.slice none 0 0] 42) = W1 at *
 have e2 : Ext W1 (W1.alloc (.map #[] 0)) := (Below.refl _ _).alloc (Nat.le_refl _) _
 have n2 := MapV.made litS W1 9
 have z2 : (W1.alloc (.map #[] 0)).heap.size = W.heap.size + 1 + 1 := by simp [z1]
 rw [z1] at n2
 generalize W1.alloc (.map #[] 0) = W2 at *
 have e3 : Ext W2 (W2.alloc (.cells #[.map (some (W.heap.size + 1))] 115)) := (Below.refl _ _).alloc (Nat.le_refl _) _
 have n3 := heap_alloc_new W2 (.cells #[.map (some (W.heap.size + 1))] 115)
 rw [z2] at n3
 refine ⟨⟨by omega, Nat.le_refl _, by omega, ?_, n3, ?_, World.ownsRow_nil _ _ _ _, ?_⟩, e1.trans (e2.trans e3)⟩
 ·exact (e1.trans (e2.trans e3)).size
 ·exact ((e2.trans e3).block W.heap.size (by omega)).trans n1
 ·exact (n2.ext e3).congr fun p => rfl
theorem kids_sz {w : World} {c : ConfD} (h : GC w c) : ∀ p ∈ allK c, SzB p := fun p hp => by
 obtain ⟨s, hs, hk⟩ := List.mem_flatMap.1 hp
 obtain ⟨-, -, -, -, -, -, h7⟩ := h.fit.1 s hs
 exact h7 p hk
theorem allK_len {c : ConfD} (h : chkC c = 0) : (allK c).length ≤ 40 := by
 have key : ∀ S : List SvcD, (∀ s ∈ S, s.K.length ≤ 4) → (S.flatMap SvcD.K).length ≤ S.length * 4 := by
  intro S
  induction S with
  | nil => intro _; exact Nat.zero_le _
  | cons s S ih =>
   intro hs
   have h1 := ih fun x hx => hs x (List.mem_cons_of_mem _ hx)
   have h2 := hs s (List.mem_cons_self ..)
   show (s.K ++ S.flatMap SvcD.K).length ≤ (S.length + 1) * 4
   rw [List.length_append]
   omega
 have h1 := key c.S fun s hs => (chk_svc h hs).2.1
 have h2 := chk_S h
 unfold allK
 omega
set_option maxRecDepth 100000 in
theorem frame41 (x : Nat → Value) : frameOf 41 x = #[x 0, x 1, x 2, x 3, x 4, x 5, x 6, x 7, x 8, x 9, x 10, x 11, x 12, x 13, x 14, x 15, x 16, x 17, x 18, x 19, x 20, x 21, x 22, x 23, x 24, x 25, x 26, x 27, x 28, x 29, x 30, x 31, x 32, x 33, x 34, x 35, x 36, x 37, x 38, x 39, x 40] := rfl
set_option maxRecDepth 100000 in
set_option maxHeartbeats 32000000 in
theorem onway_any (c : ConfD) (ps : List ByteArray) (v0 : Value) (w : World) (h : GC w c) (hs : Strs w v0 ps) (hz : ∀ p ∈ ps, SzB p) (hn : ps.length ≤ 1000) :
  Calls Tryz.prog 36 #[.agg (encC c).toArray, v0] w fun e w' => ∃ v', e = .returned v' ∧ w'.ownsRow w.heap.size 9 1 v' (wayC c ps).length ((wayC c ps).flatMap encS) ∧ Ext w w' := by
 obtain ⟨cd, hcd1, hcd2⟩ := Tryz.confDesc
 have hmm := @run_makeMap Tryz.prog
 have hx : Ext w (w.alloc (.cells (encC c).toArray 30)) := (Below.refl _ _).alloc (Nat.le_refl _) _
 have hb1 := heap_alloc_new w (.cells (encC c).toArray 30)
 have HUZ := hide (fun p (hp : p ∈ ps ++ allK c) => (by rcases List.mem_append.1 hp with hp | hp; exact hz p hp; exact kids_sz h p hp : SzB p))
 have HUL := hide (show (ps ++ allK c).length ≤ 1100 by rw [List.length_append]; have := allK_len h.chk; omega)
 obtain ⟨_, a0, n0, rfl⟩ := hs.shape
 have HG := hide (h.ext hx)
 have HS := hide (hs.ext hx)
 have HZ := hide hz
 have HCK := hide h.chk
 clear hs hz h hn
 go_enter Tryz.func36, Tryz.ntmps36
 go_upto_region 1 with (fail)
 show Code.wp _ _ _ _ (w.alloc (.cells (encC c).toArray 30))
 generalize w.alloc (.cells (encC c).toArray 30) = W at hx hb1 HG HS ⊢
 have HX := hide hx
 obtain ⟨b0, hb0⟩ : ∃ b, w.heap.size = b := ⟨_, rfl⟩
 rw [hb0] at hb1 ⊢
 have HB0 := hide hb0
 obtain ⟨B, hB⟩ : ∃ B, W.heap.size = B := ⟨_, rfl⟩
 have hlt0 : b0 < B := by rw [← hB]; exact (Array.getElem?_eq_some_iff.1 hb1).1
 have HBX := hide (fun X (hX : Below B W X) => (hX.block b0 hlt0).trans hb1)
 have HE := hide (fun X (hX : Below B W X) => (show Ext W X from by rw [← hB] at hX; exact hX))
 have HLB := hide hlt0
 clear hx hb1 hb0 hlt0
 go_upto_region 3 with (fail)
 have hst := wy_start W B hB
 show Code.wp _ _ _ _ (((W.alloc (.cells #[.slice none 0 0] 42)).alloc (.map #[] 0)).alloc (.cells #[.map (some (B + 1))] 115))
 generalize ((W.alloc (.cells #[.slice none 0 0] 42)).alloc (.map #[] 0)).alloc (.cells #[.map (some (B + 1))] 115) = W3 at hst ⊢
 have HW3 := hide hst.1
 have HB3 := hide hst.2
 clear hst hB
 have HC0 := hide (come_any B (B + 1 + 1) B (B + 1) ps [] _ _ W3 HW3.out (fun X hX => HS.out.ext (HE.out X (HB3.out.trans hX))) HZ.out (by have := HUL.out; rw [List.length_append] at this; simp; omega))
 go_wp2_with (go_at_call 68; refine HC0.out.mono ?_; rintro e W4 ⟨rfl, ⟨v4, hw4⟩, hb4, -⟩; have HW4 := hide hw4; have HB4 := hide (HB3.out.trans hb4); clear hw4 hb4)
 have HW0 := hide (WaySt.start (nbP c) ps)
 go_loopw [8] (fun v8 wr => ∃ (i : Nat) (l : List ByteArray) (v : Value), v8 = .int .i64 i ∧ WyM B wr (B + 1 + 1) B (B + 1) v l ∧ WaySt (nbP c) ps l i ∧ wayGo (nbP c) ((ps ++ allK c).length - i) l i = wayC c ps ∧ Below B W wr) (fun i _ => (ps ++ allK c).length - (intOf i).toNat)
 case atStart => exact ⟨0, _, _, rfl, HW4.out, HW0.out, rfl, HB4.out⟩
 case round =>
  obtain ⟨i, l, v, rfl, hw, hws, hwg, hb⟩ := hrel
  have HWY := hide hw
  have HBW := hide hb
  have hle := hws.len (ps ++ allK c) (fun p hp => List.mem_append_left _ hp) (fun a x hx => List.mem_append_right _ (nbP_all c a x hx))
  have HLI := hide (show l.length ≤ 1100 by have := HUL.out; omega)
  have HLE := hide hle
  obtain ⟨va, vc, rfl⟩ := owns_shape hw.row
  have c5 : wr.cell? ⟨B, 0, none⟩ = some (.slice va l.length vc) := by simp [World.cell?, hw.lb]
  by_cases hlt : i < l.length
  ·have hltz : (i : Int) < l.length := by omega
   have hwi : IntKind.i64.wrap ((i : Int) + 1) = ((i + 1 : Nat) : Int) := by have := HLI.out; rw [IntKind.wrap_i64]; omega
   obtain ⟨gl, cv, hgv, -⟩ := owns_form hw.row (by omega)
   cases hgv
   have hs1 := hws.step hlt
   have hg1 := wayGo_step (nbP c) ((ps ++ allK c).length - (i + 1)) l i hlt
   rw [show (ps ++ allK c).length - (i + 1) + 1 = (ps ++ allK c).length - i by omega, hwg] at hg1
   have hpz : SzB l[i] := by
    obtain ⟨q, hq, hr⟩ := hws.from_ l[i] (List.getElem_mem hlt)
    cases hr with
    | refl => exact HUZ.out _ (List.mem_append_left _ hq)
    | step _ h3 => exact HUZ.out _ (List.mem_append_right _ (nbP_all c _ _ h3))
   have hcp : ∀ X, Ext wr X → X.cell? ⟨gl, i, none⟩ = some (.string l[i]) := fun X hX => by
    have h1 := (owns_ext hw.row hX).cells (g := gl) rfl (i * 1 + 0) (.string l[i]) (getElem?_flatMap_enc (enc := encS) (fun _ => rfl) l i 0 l[i] _ (List.getElem?_eq_getElem hlt) rfl)
    rw [add_cell] at h1
    simpa using h1
   have hnb : nbP c l[i] = (bothP c.R l[i]).flatMap fun id => (findS c.S id).K := rfl
   have hbl := targ_len HCK.out l[i]
   have hbo := fun X (hX : Ext wr X) => both_any c l[i] X (HG.out.ext (HE.out X (hb.trans (hX.mono hw.hB)))) hpz
   generalize l[i] = p at hs1 hg1 hcp hnb hbl hbo
   have hll : (bothP c.R p).length ≤ 30 := by unfold bothP; rw [List.length_append]; omega
   generalize bothP c.R p = L at hnb hbo hll
   have HNB := hide hnb.symm
   have HLL := hide hll
   have HCP := hide hcp
   have HCL := hide (fun X (hX : Ext wr X) => (hX.cell (p := ⟨B, 0, none⟩) (World.block_lt_of_cell? wr _ c5)).trans c5)
   have HBO := hide hbo
   have HWS := hide hs1
   have HWG := hide hg1.symm
   have HLT := hide (show (0 : Int) ≤ i ∧ (i : Int) < l.length from ⟨by omega, hltz⟩)
   clear hw hb hws hwg hs1 hg1 hnb hll hcp hbo hpz hbl hle
   go_upto_region 8 with (fail)
   generalize wr = W5 at *
   refine wp_region_rw 41 [] [22, 23, 24, 25, 26, 27, 28, 29] (fun _ w' => Ext W5 w') (fun (t : Nat) (wI : World) (v : Value) => match t with | 22 => v = (.agg (encC c).toArray) | 23 => v = (.slice (some ⟨gl, 0, none⟩) l.length vc) | 24 => v = (.int .i64 (i : Int)) | 25 => v = (.pointer (some ⟨gl, i, none⟩)) | 26 => v = (.string p) | 27 => ∃ a cp, v = .slice a L.length cp ∧ wI.ownsRow B 3 1 v L.length (L.flatMap encI) | 28 => v = (.int .i64 (L.length : Int)) | 29 => v = (.int .i64 0) | _ => True) (fun w' w'' => Ext w' w'') (by kernel_rfl) rfl (by kernel_rfl) (by kernel_rfl) (by kernel_rfl) (by kernel_rfl) ?_ ?_ ?_ ?_ ?_ ?_ ?_
   ·intro w' w'' h
    exact h
   ·intro t w' w'' v hR hv
    split at hv <;> first | exact hv | ((obtain ⟨a, cp, h1, h2⟩ := hv; exact ⟨a, cp, h1, owns_ext h2 hR⟩))
   ·intro vs w' w'' h e
    exact Ext.trans h e
   ·exact (Below.refl _ _).drew
   ·intro i o ho hmi vs X w' hpk hph hX hI hF K hK
    have hin : i < 8 := (Array.getElem?_eq_some_iff.1 ho).1
    have hi : i = 0 ∨ i = 1 ∨ i = 2 ∨ i = 3 ∨ i = 4 ∨ i = 5 ∨ i = 6 ∨ i = 7 := by omega
    rcases hi with rfl | rfl | rfl | rfl | rfl | rfl | rfl | rfl
    ·obtain rfl := Option.some.inj ho
     have e2 : X 2 = (.pointer (some ⟨b0, 0, none⟩)) := hF 2 (by omega) (by kernel_rfl)
     have hx : Ext W5 w' := hph
     unfold wpOp
     simp only [ho]
     rw [if_pos (by rfl)]
     left
     rw [frame41]
     refine wp_load_mid 30 (.tmp 2) rfl b0 0 e2 (encC c) cd (range_box (HBX.out w' (HBW.out.trans (hx.mono HWY.out.hB)))) hcd1 hcd2 Tryz.confSize (metK (hK.out (.agg (encC c).toArray) _ (Below.refl _ _) (fun d hd => by cases hd; exact rfl)) ?_)
     simp [frame41, Act.put, *]
    ·obtain rfl := Option.some.inj ho
     have e5 : X 5 = (.pointer (some ⟨B, 0, none⟩)) := hF 5 (by omega) (by kernel_rfl)
     have hx : Ext W5 w' := hph
     have d0 := HCL.out w' hx
     unfold wpOp
     simp only [ho]
     rw [if_pos (by rfl)]
     left
     rw [frame41]
     go_simp
     refine metK (hK.out ((.slice (some ⟨gl, 0, none⟩) l.length vc)) _ (Below.refl _ _) (fun d hd => by cases hd; exact rfl)) ?_
     simp [frame41, Act.put, *]
    ·obtain rfl := Option.some.inj ho
     have e8 : X 8 = (.int .i64 (i : Int)) := hF 8 (by omega) (by kernel_rfl)
     unfold wpOp
     simp only [ho]
     rw [if_pos (by rfl)]
     left
     rw [frame41]
     go_simp
     refine metK (hK.out ((.int .i64 (i : Int))) _ (Below.refl _ _) (fun d hd => by cases hd; exact rfl)) ?_
     simp [frame41, Act.put, *]
    ·obtain rfl := Option.some.inj ho
     have e23 : X 23 = _ := hI 23 (by kernel_rfl) (by kernel_rfl)
     have e24 : X 24 = _ := hI 24 (by kernel_rfl) (by kernel_rfl)
     have hx : Ext W5 w' := hph
     have q0 := HLT.out
     unfold wpOp
     simp only [ho]
     rw [if_pos (by rfl)]
     left
     rw [frame41]
     go_simp
     refine metK (hK.out ((.pointer (some ⟨gl, i, none⟩))) _ (Below.refl _ _) (fun d hd => by cases hd; exact rfl)) ?_
     simp [frame41, Act.put, *]
    ·obtain rfl := Option.some.inj ho
     have e25 : X 25 = _ := hI 25 (by kernel_rfl) (by kernel_rfl)
     have hx : Ext W5 w' := hph
     have d0 := HCP.out w' hx
     unfold wpOp
     simp only [ho]
     rw [if_pos (by rfl)]
     left
     rw [frame41]
     go_simp
     refine metK (hK.out ((.string p)) _ (Below.refl _ _) (fun d hd => by cases hd; exact rfl)) ?_
     simp [frame41, Act.put, *]
    ·obtain rfl := Option.some.inj ho
     have e22 : X 22 = _ := hI 22 (by kernel_rfl) (by kernel_rfl)
     have e26 : X 26 = _ := hI 26 (by kernel_rfl) (by kernel_rfl)
     have hx : Ext W5 w' := hph
     unfold wpOp
     simp only [ho]
     rw [if_pos (by rfl)]
     left
     rw [frame41]
     go_simp
     refine (HBO.out w' hx).mono ?_
     rintro e w9 ⟨u, rfl, hu, E9⟩
     obtain ⟨a9, c9, rfl⟩ := owns_shape hu
     refine metK (hK.out _ w9 E9 (fun d hd => by cases hd; exact ⟨a9, c9, rfl, ownsLe hu (Nat.le_trans HWY.out.hB hx.size)⟩)) ?_
     simp [frame41, Act.put, *]
    ·obtain rfl := Option.some.inj ho
     have y27 := hI 27 (by kernel_rfl) (by kernel_rfl)
     obtain ⟨a27, c27, h27, -⟩ := y27
     have e27 : X 27 = .slice a27 L.length c27 := h27
     unfold wpOp
     simp only [ho]
     rw [if_pos (by rfl)]
     left
     rw [frame41]
     go_simp
     refine metK (hK.out (.int .i64 (L.length : Int)) _ (Below.refl _ _) (fun d hd => by cases hd; exact rfl)) ?_
     simp [frame41, Act.put, *]
    ·obtain rfl := Option.some.inj ho
     unfold wpOp
     simp only [ho]
     rw [if_pos (by rfl)]
     left
     rw [frame41]
     go_simp
     refine metK (hK.out ((.int .i64 0)) _ (Below.refl _ _) (fun d hd => by cases hd; exact rfl)) ?_
     simp [frame41, Act.put, *]
   ·intro i o ho hmi vs X w' hqi hql hph hX hI hF K hK
    rcases vs with _
    ·simp at hql <;> omega
   ·intro vs X w' hlen hph hX hI
    have e22 : X 22 = _ := hI 22 (by omega) (by kernel_rfl) (by kernel_rfl)
    have e23 : X 23 = _ := hI 23 (by omega) (by kernel_rfl) (by kernel_rfl)
    have e24 : X 24 = _ := hI 24 (by omega) (by kernel_rfl) (by kernel_rfl)
    have e25 : X 25 = _ := hI 25 (by omega) (by kernel_rfl) (by kernel_rfl)
    have e26 : X 26 = _ := hI 26 (by omega) (by kernel_rfl) (by kernel_rfl)
    have y27 := hI 27 (by omega) (by kernel_rfl) (by kernel_rfl)
    have e28 : X 28 = _ := hI 28 (by omega) (by kernel_rfl) (by kernel_rfl)
    have e29 : X 29 = _ := hI 29 (by omega) (by kernel_rfl) (by kernel_rfl)
    rcases vs with _ | ⟨vz, vs⟩
    rotate_left
    ·simp at hlen
    clear hX hI hlen
    simp only [overF, List.foldl_cons, List.foldl_nil, List.setIfInBounds_toArray, List.set_cons_succ, List.set_cons_zero, e22, e23, e24, e25, e26, e28, e29]
    obtain ⟨a27, c27, h27, hu27⟩ := y27
    have e27 : X 27 = .slice a27 L.length c27 := h27
    simp only [e27]
    rw [h27] at hu27
    have hx9 : Ext W5 w' := hph
    clear hph e22 e23 e24 e25 e26 e28 e29 h27 e27
    generalize w' = W6 at *
    have HW6 := hide (HWY.out.ext hx9)
    have HB6 := hide (HBW.out.trans (hx9.mono HWY.out.hB))
    have HU6 := hide hu27
    clear hx9 hu27 HCL HCP HBO HWY HBW
    go_wp2_with fail
    go_loopw [29] (fun v29 wr => ∃ (j : Nat) (v' : Value), j ≤ L.length ∧ v29 = .int .i64 j ∧ WyM B wr (B + 1 + 1) B (B + 1) v' (addNew l ((L.take j).flatMap fun id => (findS c.S id).K)) ∧ Below B W wr ∧ wr.ownsRow B 3 1 (.slice a27 L.length c27) L.length (L.flatMap encI)) (fun j _ => L.length - (intOf j).toNat)
    case atStart => exact ⟨0, _, Nat.zero_le _, rfl, HW6.out, HB6.out, HU6.out⟩
    case round =>
     obtain ⟨j, v2, hj, rfl, hw, hb, hu⟩ := hrel
     have HWJ := hide hw
     have HBJ := hide hb
     have HUJ := hide hu
     clear hw hb hu HW6 HB6 HU6
     by_cases hltj : j < L.length
     ·have hltjz : (j : Int) < L.length := by omega
      have hwj : IntKind.i64.wrap ((j : Int) + 1) = ((j + 1 : Nat) : Int) := by have := HLL.out; rw [IntKind.wrap_i64]; omega
      obtain ⟨pb, po, rfl, hpb, y0⟩ := ints_row (Sl.of_own' (enc := encI) (fun _ => rfl) HUJ.out : Ints wr (.slice a27 L.length c27) L) j hltj
      have hsn : (L.take (j + 1)).flatMap (fun id => (findS c.S id).K) = (L.take j).flatMap (fun id => (findS c.S id).K) ++ (findS c.S L[j]).K := by rw [take_snoc L j hltj, List.flatMap_append]; simp
      generalize L[j] = x at y0 hsn
      have HSN := hide hsn
      have hst := HG.out.find x
      have HSZ := hide (HG.out.ksz x)
      have HKL := hide (find_kids HCK.out x)
      have hfi := findG_any c x wr (HG.out.ext (HE.out _ HBJ.out))
      obtain ⟨s, hs⟩ : ∃ s, findS c.S x = s := ⟨_, rfl⟩
      rw [hs] at hst HSZ HKL HSN hfi
      obtain ⟨sid, skv, K, swork, sslots, squeue, sbal, swarm⟩ := s
      obtain ⟨_, ka, kc, hkv⟩ := hst.shape
      simp only at hkv hst HSZ HKL HSN hfi
      subst hkv
      have HST := hide hst
      have HFI := hide hfi
      have HLJ := hide (addNew_len l ((L.take j).flatMap fun id => (findS c.S id).K))
      have HLJ2 := hide (show ((L.take j).flatMap fun id => (findS c.S id).K).length ≤ L.length * 4 from Nat.le_trans (flat_len HCK.out (L.take j)) (Nat.mul_le_mul_right 4 (by rw [List.length_take]; exact Nat.min_le_right _ _)))
      clear hst hfi hs hsn
      go_upto_region 11 with (fail)
      refine wp_region_lit ?_
      refine wpList_plain rfl fun Kq hKq => ?_
      go_simp
      refine hKq _ _ ?_
      refine wpList_load_mid rfl 30 (.tmp 2) rfl b0 0 rfl (encC c) cd (range_box (HBX.out _ HBJ.out)) hcd1 hcd2 Tryz.confSize ?_
      refine wpList_plain rfl fun Kq hKq => ?_
      go_simp
      refine hKq _ _ ?_
      refine wpList_plain rfl fun Kq hKq => ?_
      go_simp
      refine HFI.out.mono ?_
      rintro e w7 ⟨rfl, E7⟩
      refine hKq _ _ ?_
      clear hKq Kq HFI y0
      have HW7 := hide (HWJ.out.ext E7)
      have HB7 := hide (HBJ.out.trans (E7.mono HWJ.out.hB))
      have HU7 := hide (owns_ext HUJ.out E7)
      clear E7 HWJ HBJ HUJ
      simp only [SvcD.val]
      refine wpList_plain rfl fun Kq hKq => ?_
      go_simp
      refine hKq _ _ ?_
      refine wpList_plain rfl fun Kq hKq => ?_
      go_simp
      refine (come_any B (B + 1 + 1) B (B + 1) K _ _ v2 w7 HW7.out (fun X hX => HST.out.ext (HE.out X (HB7.out.trans hX))) HSZ.out (by have := HLJ.out; have := HLJ2.out; have := HKL.out; have := HLI.out; have := HLL.out; omega)).mono ?_
      rintro e w8 ⟨rfl, ⟨v3, hw8⟩, hb8, hk8⟩
      refine hKq _ _ ?_
      clear hKq Kq
      have HU8 := hide (HW7.out.ints hk8 HU7.out)
      have HB8 := hide (HB7.out.trans hb8)
      rw [← addNew_append] at hw8
      have HW8 := hide hw8
      clear hw8 hb8 hk8
      refine wpList_nil ?_
      go_wp2
      go_roundw
      case rel => exact ⟨j + 1, v3, hltj, by go_num, by rw [HSN.out]; exact HW8.out, HB8.out, HU8.out⟩
      case measure => simp [intOf]; omega
     ·obtain rfl : j = L.length := by omega
      have hltjz : ¬ (L.length : Int) < L.length := by omega
      have hwj := HWJ.out
      rw [List.take_length] at hwj
      have HWZ := hide hwj
      clear hwj HWJ HUJ
      go_wp2
      go_roundw
      case rel => exact ⟨i + 1, _, v2, by go_num, by rw [HNB.out] at HWZ; exact HWZ.out, HWS.out, HWG.out, HBJ.out⟩
      case measure =>
       have h := HLE.out
       rw [List.length_append] at h
       simp [intOf]
       omega
  ·have hi : i = l.length := by have := hws.le; omega
   have hfin : l = wayC c ps := by rw [← hwg, wayGo_end (nbP c) _ l i (by omega)]
   have hltz : ¬ (i : Int) < l.length := by omega
   have HF := hide hfin
   have HO := hide (ownsLe hw.row (show w.heap.size ≤ B by rw [HB0.out]; have := HX.out.size; have := HLB.out; omega))
   have HZZ := hide (HX.out.trans (HE.out wr hb))
   clear hw hb hws hwg hfin hle hi
   go_wp2
   go_ret
   exact ⟨_, rfl, by rw [← HF.out]; exact HO.out, HZZ.out⟩
end Go.Proofs.YtceaeiaoanhlnaaGreatDoor
