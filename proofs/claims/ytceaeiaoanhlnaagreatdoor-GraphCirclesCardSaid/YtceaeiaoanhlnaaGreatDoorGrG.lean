import Derived.Test.YtceaeiaoanhlnaaGreatDoorGrD
import Derived.Test.YtceaeiaoanhlnaaGreatDoorZhr
namespace Go.Proofs.YtceaeiaoanhlnaaGreatDoor
open Go.ChangeShapes Go.WideShapes Go.ChangeAt Go.RowKit Go.Lib Go.Shelf
/-- is a text among others? -/
def hasT (L : List ByteArray) (p : ByteArray) : Bool := L.any fun q => q.toList == p.toList
theorem toList_inj {x y : ByteArray} (h : x.toList = y.toList) : x = y := by
 rw [toL, toL] at h
 cases x
 cases y
 congr 1
 exact Array.ext' h
theorem hasT_iff {L : List ByteArray} {p : ByteArray} : hasT L p = true ↔ p ∈ L := by
 unfold hasT
 rw [List.any_eq_true]
 constructor
 ·rintro ⟨q, hq, he⟩
  rw [← toList_inj (by simpa using he : q.toList = p.toList)]
  exact hq
 ·intro h
  exact ⟨p, h, by simp⟩
theorem hasT_take {L : List ByteArray} {p : ByteArray} (k : Nat) (hk : k < L.length) : hasT (L.take (k + 1)) p = (hasT (L.take k) p || (L[k].toList == p.toList)) := by
 unfold hasT
 rw [take_snoc L k hk, List.any_append]
 simp
set_option maxRecDepth 100000 in
set_option maxHeartbeats 2000000 in
theorem hasT_any (L : List ByteArray) (p : ByteArray) (v : Value) (w : World) (hs : Strs w v L) :
  Calls Tryz.prog 75 #[v, .string p] w fun e w' => e = .returned (.bool (hasT L p)) ∧ w = w' := by
 obtain ⟨hl, a, cap, rfl⟩ := hs.shape
 have HC := hide hs; clear hs
 go_enter Tryz.func75, Tryz.ntmps75
 go_wp2
 go_loopw [5] (fun i wr => ∃ k : Nat, k ≤ L.length ∧ i = .int .i64 k ∧ hasT (L.take k) p = false ∧ wr = w)
  (fun i _ => L.length - (intOf i).toNat)
 case atStart => exact ⟨0, Nat.zero_le _, rfl, rfl, rfl⟩
 case round =>
  obtain ⟨k, hk, rfl, hno, rfl⟩ := hrel
  by_cases hlt : k < L.length
  ·obtain ⟨b, off, rfl, hbb, hc⟩ := strs_row HC.out k hlt
   have hcs := hasT_take (p := p) k hlt
   have hm : L[k] ∈ L := List.getElem_mem hlt
   obtain ⟨x, hx⟩ : ∃ x, L[k] = x := ⟨_, rfl⟩
   rw [hx] at hc hcs hm
   rw [hno, Bool.false_or] at hcs
   clear hx hno
   cases he : (x.toList == p.toList) with
   | true =>
    have hin : hasT L p = true := hasT_iff.2 (by rw [← toList_inj (by simpa using he : x.toList = p.toList)]; exact hm)
    have HIN := hide hin
    clear hin hm hcs
    go_wp2
    go_ret
    exact ⟨ret_bool HIN.out.symm, rfl⟩
   | false =>
    rw [he] at hcs
    have HCS := hide hcs
    clear hcs hm
    go_wp2
    go_roundw
    case rel => exact ⟨k + 1, hlt, by go_num, HCS.out, trivial⟩
    case measure => simp [intOf]; omega
  ·obtain rfl : k = L.length := by omega
   rw [List.take_length] at hno
   have HN := hide hno; clear hno
   go_wp2
   go_ret
   exact ⟨ret_bool HN.out.symm, rfl⟩
/-- the texts that one call lists -/
structure WO (W w : World) (v : Value) (O : List ByteArray) : Prop where
 row : w.ownsRow W.heap.size 9 1 v O.length (O.flatMap encS)
 ext : Ext W w
theorem WO.to {W w w' : World} {v : Value} {O : List ByteArray} (h : WO W w v O) (e : Ext w w') : WO W w' v O := ⟨owns_ext h.row e, h.ext.trans e⟩
theorem WO.add {W w w2 : World} {v v' : Value} {O : List ByteArray} {x : ByteArray} (h : WO W w v O) (ho : w2.ownsRow W.heap.size 9 1 v' (O.length + 1) (O.flatMap encS ++ [.string x])) (k : Keeps (fun q => v.ownBlock = some q) w w2) : WO W w2 v' (O ++ [x]) :=
 ⟨by rw [List.length_append, List.flatMap_append]; exact ho, Keeps.ext h.ext k fun q hq => (h.row.lt q hq).1⟩
theorem gInfoT : (Tryz.prog.info? 9).map (fun i => (i.size, i.bytes, i.zero.map fun z => z.cells.size)) = some (1, 16, some 1) := by kernel_rfl
theorem addNew_lenR {α : Type} [DecidableEq α] : ∀ (l a : List α), (addNew l a).length ≤ l.length + a.length
 | l, [] => Nat.le_refl _
 | l, x :: a => by
  show (addNew (if x ∈ l then l else l ++ [x]) a).length ≤ _
  have h := addNew_lenR (if x ∈ l then l else l ++ [x]) a
  have h2 : (if x ∈ l then l else l ++ [x]).length ≤ l.length + 1 := by split <;> simp
  simp only [List.length_cons]
  omega
theorem flat_lenR {c : ConfD} (h : chkC c = 0) : ∀ (L : List Int), (L.flatMap fun id => (findS c.S id).K).length ≤ L.length * 4
 | [] => Nat.zero_le _
 | x :: L => by
  have h1 := flat_lenR h L
  have h2 := find_kids h x
  rw [List.flatMap_cons, List.length_append, List.length_cons]
  omega
theorem kids_szR {w : World} {c : ConfD} (h : GC w c) : ∀ p ∈ allK c, SzB p := fun p hp => by
 obtain ⟨s, hs, hk⟩ := List.mem_flatMap.1 hp
 obtain ⟨h1, h2, h3, h4, h5, h6, h7⟩ := h.fit.1 s hs
 exact h7 p hk
theorem allK_lenR {c : ConfD} (h : chkC c = 0) : (allK c).length ≤ 40 := by
 have hg : ∀ (S : List SvcD), (∀ s ∈ S, s.K.length ≤ 4) → (S.flatMap SvcD.K).length ≤ S.length * 4 := by
  intro S
  induction S with
  | nil => intro _; exact Nat.zero_le _
  | cons s S ih =>
   intro hs
   have h1 := ih fun x hx => hs x (List.mem_cons_of_mem _ hx)
   have h2 := hs s (List.mem_cons_self ..)
   rw [List.flatMap_cons, List.length_append, List.length_cons]
   omega
 have h1 := hg c.S fun s hs => (chk_svc h hs).2.1
 have h2 := chk_S h
 unfold allK
 omega
/-- 'append(Services(..), Copies(..)...)' -/
def PhW2 (W : World) (A C : List Int) : List Value → World → Prop
 | [], w' => Ext W w'
 | [s], w' => Ext W w' ∧ w'.ownsRow W.heap.size 3 1 s A.length (A.flatMap encI)
 | [s, k], w' => Ext W w' ∧ w'.ownsRow W.heap.size 3 1 s A.length (A.flatMap encI) ∧ Ints w' k C
 | [_, _, r], w' => Ext W w' ∧ w'.ownsRow W.heap.size 3 1 r (A ++ C).length ((A ++ C).flatMap encI)
 | _ :: _ :: r :: z :: _, w' => z = r ∧ Ext W w' ∧ w'.ownsRow W.heap.size 3 1 r (A ++ C).length ((A ++ C).flatMap encI)
theorem PhW2.keep {W : World} {A C : List Int} : ∀ {vs : List Value} {w' w'' : World}, PhW2 W A C vs w' → Ext w' w'' → PhW2 W A C vs w''
 | [], _, _, h, e => Ext.trans h e
 | [_], _, _, ⟨h1, h2⟩, e => ⟨h1.trans e, owns_ext h2 e⟩
 | [_, _], _, _, ⟨h1, h2, h3⟩, e => ⟨h1.trans e, owns_ext h2 e, h3.ext e⟩
 | [_, _, _], _, _, ⟨h1, h2⟩, e => ⟨h1.trans e, owns_ext h2 e⟩
 | _ :: _ :: _ :: _ :: _, _, _, ⟨h0, h1, h2⟩, e => ⟨h0, h1.trans e, owns_ext h2 e⟩
theorem PhW2.e {W : World} {A C : List Int} : ∀ {vs : List Value} {w' : World}, PhW2 W A C vs w' → Ext W w'
 | [], _, h => h
 | [_], _, h => h.1
 | [_, _], _, h => h.1
 | [_, _, _], _, h => h.1
 | _ :: _ :: _ :: _ :: _, _, h => h.2.1
theorem frame66 (x : Nat → Value) : frameOf 66 x = #[x 0, x 1, x 2, x 3, x 4, x 5, x 6, x 7, x 8, x 9, x 10, x 11, x 12, x 13, x 14, x 15, x 16, x 17, x 18, x 19, x 20, x 21, x 22, x 23, x 24, x 25, x 26, x 27, x 28, x 29, x 30, x 31, x 32, x 33, x 34, x 35, x 36, x 37, x 38, x 39, x 40, x 41, x 42, x 43, x 44, x 45, x 46, x 47, x 48, x 49, x 50, x 51, x 52, x 53, x 54, x 55, x 56, x 57, x 58, x 59, x 60, x 61, x 62, x 63, x 64, x 65] := rfl
theorem frame49 (x : Nat → Value) : frameOf 49 x = #[x 0, x 1, x 2, x 3, x 4, x 5, x 6, x 7, x 8, x 9, x 10, x 11, x 12, x 13, x 14, x 15, x 16, x 17, x 18, x 19, x 20, x 21, x 22, x 23, x 24, x 25, x 26, x 27, x 28, x 29, x 30, x 31, x 32, x 33, x 34, x 35, x 36, x 37, x 38, x 39, x 40, x 41, x 42, x 43, x 44, x 45, x 46, x 47, x 48] := rfl
set_option maxRecDepth 100000 in
set_option maxHeartbeats 16000000 in
/-- the paths on the way of a path -/
theorem rway_any (c : ConfD) (path : ByteArray) (w : World) (h : GC w c) (hp : SzB path) :
  Calls Tryz.prog 41 #[.agg (encC c).toArray, .string path] w fun e w' => ∃ v', e = .returned v' ∧ w'.ownsRow w.heap.size 9 1 v' (wayC c [path]).length ((wayC c [path]).flatMap encS) ∧ Ext w w' := by
 obtain ⟨cd, hcd1, hcd2⟩ := Tryz.confDesc
 obtain ⟨ii, zi, hi0, hi1, hi2, hi3, hi4⟩ := info_partsN gInfoI
 have hx : Ext w (w.alloc (.cells (encC c).toArray 30)) := (Below.refl _ _).alloc (Nat.le_refl _) _
 have hb1 : BoxC (w.alloc (.cells (encC c).toArray 30)) w.heap.size c := heap_alloc_new w (.cells (encC c).toArray 30)
 have HUZ := hide (fun p (hq : p ∈ [path] ++ allK c) => (by rcases List.mem_append.1 hq with hq | hq; rw [List.mem_singleton.1 hq]; exact hp; exact kids_szR h p hq : SzB p))
 have HUL := hide (show ([path] ++ allK c).length ≤ 41 by rw [List.length_append]; have := allK_lenR h.chk; simp; omega)
 have HG := hide (h.ext hx)
 clear h hp
 go_enter Tryz.func41, Tryz.ntmps41
 go_upto_region 1 with (fail)
 show Code.wp _ _ _ _ (w.alloc (.cells (encC c).toArray 30))
 generalize w.alloc (.cells (encC c).toArray 30) = W at hx hb1 HG ⊢
 have HX := hide hx
 obtain ⟨b2, hb2⟩ : ∃ b, w.heap.size = b := ⟨_, rfl⟩
 rw [hb2] at hb1 ⊢
 have HB2 := hide hb2
 have HBX := hide (fun X (hX : Ext W X) => BoxC.ext hb1 hX)
 clear hx hb1 hb2
 go_upto_region 2 with (fail)
 have hxa : Ext W (W.alloc (.cells #[.string path] 9)) := (Below.refl _ _).alloc (Nat.le_refl _) _
 have hlit : WO W (W.alloc (.cells #[.string path] 9)) (.slice (some ⟨W.heap.size, 0, none⟩) 1 1) [path] := ⟨World.ownsRow_lit (base := W.heap.size) (e := 9) (size := 1) W #[.string path] 1 (Nat.le_refl _) (by unfold maxLen; omega) rfl, hxa⟩
 show Code.wp _ _ _ _ (W.alloc (.cells #[.string path] 9))
 generalize W.alloc (.cells #[.string path] 9) = W2 at hxa hlit ⊢
 have HLI0 := hide hlit
 have HW0 := hide (WaySt.start (nbP c) [path])
 have HA0 := hide (show addNew [] [path] = [path] from by simp [addNew])
 clear hxa hlit
 go_wp2_with fail
 go_loopw [5, 6] (fun v5 v6 wr => ∃ (i : Nat) (l : List ByteArray), v6 = .int .i64 i ∧ WaySt (nbP c) [path] l i ∧ wayGo (nbP c) (([path] ++ allK c).length - i) l i = wayC c [path] ∧ Hid (WO W wr v5 l)) (fun _ i _ => ([path] ++ allK c).length - (intOf i).toNat)
 case atStart => exact ⟨0, [path], rfl, by rw [← HA0.out]; exact HW0.out, by rw [← HA0.out]; rfl, hide HLI0.out⟩
 case round =>
  obtain ⟨i, l, rfl, hws, hwg, hwl⟩ := hrel
  have HWL := hide hwl.out
  have HEW := hide hwl.out.ext
  obtain ⟨la, cv, rfl⟩ := owns_shape HWL.out.row
  clear hwl
  have hle := hws.len ([path] ++ allK c) (fun p hp => List.mem_append_left _ hp) (fun a x hx => List.mem_append_right _ (nbP_all c a x hx))
  have HLI := hide (show l.length ≤ 41 by have := HUL.out; omega)
  by_cases hlt : i < l.length
  ·have hltz : (i : Int) < l.length := by omega
   have hwi : IntKind.i64.wrap ((i : Int) + 1) = ((i + 1 : Nat) : Int) := by have := HLI.out; rw [IntKind.wrap_i64]; omega
   obtain ⟨gl, cap, hgv, -⟩ := owns_block HWL.out.row (by omega)
   injection hgv with h1 h2 h3
   subst h1
   have hs1 := hws.step hlt
   have hg1 := wayGo_step (nbP c) (([path] ++ allK c).length - (i + 1)) l i hlt
   rw [show ([path] ++ allK c).length - (i + 1) + 1 = ([path] ++ allK c).length - i by omega, hwg] at hg1
   have hpz : SzB l[i] := by
    obtain ⟨q, hq, hr⟩ := hws.from_ l[i] (List.getElem_mem hlt)
    cases hr with
    | refl => exact HUZ.out _ (List.mem_append_left _ hq)
    | step _ h3 => exact HUZ.out _ (List.mem_append_right _ (nbP_all c _ _ h3))
   obtain ⟨bq, oq, eq, -, hcp⟩ := strs_row (Sl.of_own' (enc := encS) (fun _ => rfl) HWL.out.row : Strs wr (.slice (some ⟨gl, 0, none⟩) l.length cv) l) i hlt
   cases eq
   rw [Nat.zero_add] at hcp
   have hnb : nbP c l[i] = (bothP c.R l[i]).flatMap fun id => (findS c.S id).K := rfl
   have hbl := targ_len HG.out.chk l[i]
   have hse := fun X (hX : Ext wr X) => rser_any c l[i] X (HG.out.ext (HEW.out.trans hX)) hpz
   have hco := fun X (hX : Ext wr X) => rcop_any c l[i] X (HG.out.ext (HEW.out.trans hX)) hpz
   have HLE := hide (show i < ([path] ++ allK c).length by omega)
   generalize l[i] = p at hs1 hg1 hcp hnb hbl hse hco
   have hll : (targS c.R p).length + (targC c.R p).length ≤ 30 := by omega
   unfold bothP at hnb
   generalize targS c.R p = A at hnb hse hll
   generalize targC c.R p = C at hnb hco hll
   have HNB := hide hnb.symm
   have HAC := hide hll
   have HCP := hide (fun X (hX : Ext wr X) => cell_ext hX hcp)
   have HSER := hide hse
   have HCOP := hide hco
   have HWS := hide hs1
   have HWG := hide hg1.symm
   clear hws hwg hs1 hg1 hnb hll hcp hse hco hpz hbl hle h2 h3
   go_upto_region 5 with (fail)
   refine wp_region_rwz 66 [5, 11, 12, 13] [7, 19, 20, 21, 22, 23, 24, 25, 26, 27, 28, 29, 30, 31] (PhW2 wr A C) (fun (t : Nat) (wI : World) (v : Value) => match t with | 19 => v = (.agg (encC c).toArray) | 20 => v = (.slice (some ⟨gl, 0, none⟩) l.length cv) | 21 => v = (.int .i64 (i : Int)) | 22 => v = (.pointer (some ⟨gl, i, none⟩)) | 23 => v = (.string p) | 25 => v = (.agg (encC c).toArray) | 26 => v = (.slice (some ⟨gl, 0, none⟩) l.length cv) | 27 => v = (.int .i64 (i : Int)) | 28 => v = (.pointer (some ⟨gl, i, none⟩)) | 29 => v = (.string p) | _ => True) (fun _ _ => True) (by kernel_rfl) rfl (by kernel_rfl) (by kernel_rfl) (by kernel_rfl) (by kernel_rfl) ?_ ?_ ?_ ?_ ?_ ?_ ?_
   ·intro w' w'' h
    trivial
   ·intro t w' w'' v hR hv
    exact hv
   ·intro vs w' w'' h e
    exact h.keep e
   ·exact (Below.refl _ _).drew
   ·intro i o ho hmi vs X w' hpk hph hX hI hF K hK
    have hin : i < 14 := (Array.getElem?_eq_some_iff.1 ho).1
    have hi : i = 0 ∨ i = 1 ∨ i = 2 ∨ i = 3 ∨ i = 4 ∨ i = 5 ∨ i = 6 ∨ i = 7 ∨ i = 8 ∨ i = 9 ∨ i = 10 ∨ i = 11 ∨ i = 12 ∨ i = 13 := by omega
    rcases hi with rfl | rfl | rfl | rfl | rfl | rfl | rfl | rfl | rfl | rfl | rfl | rfl | rfl | rfl
    ·obtain rfl := Option.some.inj ho
     have e2 : X 2 = (.pointer (some ⟨b2, 0, none⟩)) := hF 2 (by kernel_rfl)
     have hx : Ext W w' := HEW.out.trans hph.e
     unfold wpOp
     simp only [ho]
     rw [if_pos (by rfl)]
     left
     rw [frame66]
     refine wp_load_mid 30 (.tmp 2) rfl b2 0 e2 (encC c) cd (BoxC.range (HBX.out w' hx)) hcd1 hcd2 Tryz.confSize (metK (hK.out (.agg (encC c).toArray) _ (Below.refl _ _) (fun d hd => by cases hd; exact rfl)) ?_)
     simp [frame66, Act.put, *]
    ·obtain rfl := Option.some.inj ho
     have e5 : X 5 = (.slice (some ⟨gl, 0, none⟩) l.length cv) := hF 5 (by kernel_rfl)
     unfold wpOp
     simp only [ho]
     rw [if_pos (by rfl)]
     left
     rw [frame66]
     go_simp
     refine metK (hK.out ((.slice (some ⟨gl, 0, none⟩) l.length cv)) _ (Below.refl _ _) (fun d hd => by cases hd; exact rfl)) ?_
     simp [frame66, Act.put, *]
    ·obtain rfl := Option.some.inj ho
     have e6 : X 6 = (.int .i64 (i : Int)) := hF 6 (by kernel_rfl)
     unfold wpOp
     simp only [ho]
     rw [if_pos (by rfl)]
     left
     rw [frame66]
     go_simp
     refine metK (hK.out ((.int .i64 (i : Int))) _ (Below.refl _ _) (fun d hd => by cases hd; exact rfl)) ?_
     simp [frame66, Act.put, *]
    ·obtain rfl := Option.some.inj ho
     have e20 : X 20 = _ := hI 20 (by kernel_rfl) (by kernel_rfl)
     have e21 : X 21 = _ := hI 21 (by kernel_rfl) (by kernel_rfl)
     unfold wpOp
     simp only [ho]
     rw [if_pos (by rfl)]
     left
     rw [frame66]
     go_simp
     refine metK (hK.out ((.pointer (some ⟨gl, i, none⟩))) _ (Below.refl _ _) (fun d hd => by cases hd; exact rfl)) ?_
     simp [frame66, Act.put, *]
    ·obtain rfl := Option.some.inj ho
     have e22 : X 22 = _ := hI 22 (by kernel_rfl) (by kernel_rfl)
     have q := HCP.out w' hph.e
     unfold wpOp
     simp only [ho]
     rw [if_pos (by rfl)]
     left
     rw [frame66]
     go_simp
     refine metK (hK.out ((.string p)) _ (Below.refl _ _) (fun d hd => by cases hd; exact rfl)) ?_
     simp [frame66, Act.put, *]
    ·exact absurd hmi (by decide)
    ·obtain rfl := Option.some.inj ho
     have e2 : X 2 = (.pointer (some ⟨b2, 0, none⟩)) := hF 2 (by kernel_rfl)
     have hx : Ext W w' := HEW.out.trans hph.e
     unfold wpOp
     simp only [ho]
     rw [if_pos (by rfl)]
     left
     rw [frame66]
     refine wp_load_mid 30 (.tmp 2) rfl b2 0 e2 (encC c) cd (BoxC.range (HBX.out w' hx)) hcd1 hcd2 Tryz.confSize (metK (hK.out (.agg (encC c).toArray) _ (Below.refl _ _) (fun d hd => by cases hd; exact rfl)) ?_)
     simp [frame66, Act.put, *]
    ·obtain rfl := Option.some.inj ho
     have e5 : X 5 = (.slice (some ⟨gl, 0, none⟩) l.length cv) := hF 5 (by kernel_rfl)
     unfold wpOp
     simp only [ho]
     rw [if_pos (by rfl)]
     left
     rw [frame66]
     go_simp
     refine metK (hK.out ((.slice (some ⟨gl, 0, none⟩) l.length cv)) _ (Below.refl _ _) (fun d hd => by cases hd; exact rfl)) ?_
     simp [frame66, Act.put, *]
    ·obtain rfl := Option.some.inj ho
     have e6 : X 6 = (.int .i64 (i : Int)) := hF 6 (by kernel_rfl)
     unfold wpOp
     simp only [ho]
     rw [if_pos (by rfl)]
     left
     rw [frame66]
     go_simp
     refine metK (hK.out ((.int .i64 (i : Int))) _ (Below.refl _ _) (fun d hd => by cases hd; exact rfl)) ?_
     simp [frame66, Act.put, *]
    ·obtain rfl := Option.some.inj ho
     have e26 : X 26 = _ := hI 26 (by kernel_rfl) (by kernel_rfl)
     have e27 : X 27 = _ := hI 27 (by kernel_rfl) (by kernel_rfl)
     unfold wpOp
     simp only [ho]
     rw [if_pos (by rfl)]
     left
     rw [frame66]
     go_simp
     refine metK (hK.out ((.pointer (some ⟨gl, i, none⟩))) _ (Below.refl _ _) (fun d hd => by cases hd; exact rfl)) ?_
     simp [frame66, Act.put, *]
    ·obtain rfl := Option.some.inj ho
     have e28 : X 28 = _ := hI 28 (by kernel_rfl) (by kernel_rfl)
     have q := HCP.out w' hph.e
     unfold wpOp
     simp only [ho]
     rw [if_pos (by rfl)]
     left
     rw [frame66]
     go_simp
     refine metK (hK.out ((.string p)) _ (Below.refl _ _) (fun d hd => by cases hd; exact rfl)) ?_
     simp [frame66, Act.put, *]
    ·exact absurd hmi (by decide)
    ·exact absurd hmi (by decide)
    ·exact absurd hmi (by decide)
   ·intro i o ho hmi vs X w' hqi hql hph hX hI hF K hK
    rcases vs with _ | ⟨v0, _ | ⟨v1, _ | ⟨v2, _ | ⟨v3, _⟩⟩⟩⟩
    ·obtain rfl : 5 = i := hqi
     obtain rfl := Option.some.inj ho
     have e19 : X 19 = _ := hI 19 (by kernel_rfl) (by kernel_rfl)
     have e23 : X 23 = _ := hI 23 (by kernel_rfl) (by kernel_rfl)
     have hx : Ext wr w' := hph
     unfold wpOp
     simp only [ho]
     rw [if_pos (by rfl)]
     left
     rw [frame66]
     go_simp
     refine (HSER.out w' hx).mono ?_
     rintro e w9 ⟨u9, rfl, ho9, E9⟩
     refine metK (hK.out u9 w9 ⟨hx.trans E9, owns_monoG ho9 hx.size⟩ trivial) ?_
     simp [frame66, Act.put, *]
    ·obtain rfl : 11 = i := hqi
     obtain rfl := Option.some.inj ho
     have e25 : X 25 = _ := hI 25 (by kernel_rfl) (by kernel_rfl)
     have e29 : X 29 = _ := hI 29 (by kernel_rfl) (by kernel_rfl)
     obtain ⟨hx, hs⟩ := hph
     unfold wpOp
     simp only [ho]
     rw [if_pos (by rfl)]
     left
     rw [frame66]
     go_simp
     refine (HCOP.out w' hx).mono ?_
     rintro e w9 ⟨u9, rfl, ho9, E9⟩
     refine metK (hK.out u9 w9 ⟨hx.trans E9, owns_ext hs E9, Sl.of_own' (enc := encI) (fun _ => rfl) ho9⟩ trivial) ?_
     simp [frame66, Act.put, *]
    ·obtain rfl : 12 = i := hqi
     obtain rfl := Option.some.inj ho
     have e24 : X 24 = v0 := hX 0 24 (by simp) (by kernel_rfl)
     have e30 : X 30 = v1 := hX 1 30 (by simp) (by kernel_rfl)
     obtain ⟨hx, hs, hk⟩ := hph
     unfold wpOp
     simp only [ho]
     rw [if_pos (by rfl)]
     left
     rw [frame66]
     refine wp_append_sl (enc := encI) (.tmp 24) (.tmp 30) 22 rfl wr.heap.size 3 ii zi 1 8 Tryz.underlying22 hi0 hi1 hi2 hi3 hi4 (by decide) (fun _ => rfl) v0 A.length (A.flatMap encI) (by simp [Act.eval, *]) hs v1 (by simp [Act.eval, *]) C hk (ones_encI C) (by have := HAC.out; unfold maxLen; omega) (by have := HAC.out; omega) hx.size (fun v' w9 ho9 hg9 => ?_)
     refine metK (hK.out v' w9 ⟨Keeps.ext hx (Keeps.of_grown hg9 fun q h => h) (fun q hq => (hs.lt q hq).1), by rw [List.length_append, List.flatMap_append]; exact ho9⟩ trivial) ?_
     simp [frame66, Act.put, *]
    ·obtain rfl : 13 = i := hqi
     obtain rfl := Option.some.inj ho
     have e31 : X 31 = v2 := hX 2 31 (by simp) (by kernel_rfl)
     unfold wpOp
     simp only [ho]
     rw [if_pos (by rfl)]
     left
     rw [frame66]
     go_simp
     refine metK (hK.out v2 w' ⟨rfl, hph⟩ trivial) ?_
     simp [frame66, Act.put, *]
    ·simp at hql <;> omega
   ·intro vs X w' hlen hph hX hI
    have e19 : X 19 = _ := hI 19 (by omega) (by kernel_rfl) (by kernel_rfl)
    have e20 : X 20 = _ := hI 20 (by omega) (by kernel_rfl) (by kernel_rfl)
    have e21 : X 21 = _ := hI 21 (by omega) (by kernel_rfl) (by kernel_rfl)
    have e22 : X 22 = _ := hI 22 (by omega) (by kernel_rfl) (by kernel_rfl)
    have e23 : X 23 = _ := hI 23 (by omega) (by kernel_rfl) (by kernel_rfl)
    have e25 : X 25 = _ := hI 25 (by omega) (by kernel_rfl) (by kernel_rfl)
    have e26 : X 26 = _ := hI 26 (by omega) (by kernel_rfl) (by kernel_rfl)
    have e27 : X 27 = _ := hI 27 (by omega) (by kernel_rfl) (by kernel_rfl)
    have e28 : X 28 = _ := hI 28 (by omega) (by kernel_rfl) (by kernel_rfl)
    have e29 : X 29 = _ := hI 29 (by omega) (by kernel_rfl) (by kernel_rfl)
    rcases vs with _ | ⟨v0, _ | ⟨v1, _ | ⟨v2, _ | ⟨v3, _ | ⟨vz, vs⟩⟩⟩⟩⟩
    ·simp at hlen
    ·simp at hlen
    ·simp at hlen
    ·simp at hlen
    rotate_left
    ·simp at hlen
    have e7 : X 7 = v3 := hX 3 7 (by simp) (by kernel_rfl)
    have e24 : X 24 = v0 := hX 0 24 (by simp) (by kernel_rfl)
    have e30 : X 30 = v1 := hX 1 30 (by simp) (by kernel_rfl)
    have e31 : X 31 = v2 := hX 2 31 (by simp) (by kernel_rfl)
    clear hX hI hlen
    simp only [overF, List.foldl_cons, List.foldl_nil, List.setIfInBounds_toArray, List.set_cons_succ, List.set_cons_zero, e7, e19, e20, e21, e22, e23, e24, e25, e26, e27, e28, e29, e30, e31]
    obtain ⟨rfl, hx5, hrow⟩ := hph
    have HX5 := hide (HEW.out.trans hx5)
    have HWO5 := hide (HWL.out.to hx5)
    obtain ⟨Q, hQ⟩ : ∃ Q, A ++ C = Q := ⟨_, rfl⟩
    rw [hQ] at hrow
    have hql : Q.length ≤ 30 := by rw [← hQ, List.length_append]; exact HAC.out
    have HQL := hide hql
    have HQW := hide (show Q.flatMap (fun id => (findS c.S id).K) = nbP c p from by rw [← hQ]; exact HNB.out)
    have hrow2 := owns_monoG hrow HEW.out.size
    obtain ⟨qa, qc, rfl⟩ := owns_shape hrow2
    have HQ0 := hide hrow2
    clear hrow hrow2 hql hQ hx5 HSER HCOP e19 e20 e21 e22 e23 e25 e26 e27 e28 e29 e24 e30 e31
    generalize w' = W6 at *
    go_wp2_with fail
    go_loopw [5, 8] (fun v5 v8 wk => ∃ (k : Nat) (O : List ByteArray), k ≤ Q.length ∧ v8 = .int .i64 k ∧ O = addNew l ((Q.take k).flatMap fun id => (findS c.S id).K) ∧ Hid (WO W wk v5 O) ∧ Hid (wk.ownsRow W.heap.size 3 1 (.slice qa Q.length qc) Q.length (Q.flatMap encI))) (fun _ k _ => Q.length - (intOf k).toNat)
    case atStart => exact ⟨0, l, Nat.zero_le _, rfl, rfl, hide HWO5.out, hide HQ0.out⟩
    case round =>
     obtain ⟨k, O, hk, rfl, hO, hwo, hq⟩ := hrel
     have HWO := hide hwo.out
     have HQ := hide hq.out
     obtain ⟨oa, oc, rfl⟩ := owns_shape HWO.out.row
     clear hwo hq
     by_cases hlt2 : k < Q.length
     ·have hltz2 : (k : Int) < Q.length := by omega
      have hwk : IntKind.i64.wrap ((k : Int) + 1) = ((k + 1 : Nat) : Int) := by have := HQL.out; rw [IntKind.wrap_i64]; omega
      obtain ⟨gq, cap, hgv, -⟩ := owns_block HQ.out (by omega)
      injection hgv with h1 h2 h3
      subst h1
      obtain ⟨bq, oq, eq, -, hqc⟩ := ints_row (Sl.of_own' (enc := encI) (fun _ => rfl) HQ.out : Ints wr (.slice (some ⟨gq, 0, none⟩) Q.length qc) Q) k hlt2
      cases eq
      rw [Nat.zero_add] at hqc
      have hnx : addNew l ((Q.take (k + 1)).flatMap fun id => (findS c.S id).K) = addNew O (findS c.S Q[k]).K := by
       rw [take_snoc Q k hlt2, List.flatMap_append, addNew_append, ← hO]
       simp
      have hob : O.length ≤ 170 := by
       have e1 := addNew_lenR l ((Q.take k).flatMap fun id => (findS c.S id).K)
       rw [← hO] at e1
       have e2 := flat_lenR HG.out.chk (Q.take k)
       have e3 := List.length_take_le k Q
       have e4 := HLI.out
       have e5 := HQL.out
       omega
      have hkl := find_kids HG.out.chk Q[k]
      have hks := HG.out.find Q[k]
      have hsv := fun X (hX : Ext W X) => rsvc_any c Q[k] X (HG.out.ext hX)
      generalize Q[k] = x at hqc hnx hkl hks hsv
      obtain ⟨s, hs⟩ : ∃ s, findS c.S x = s := ⟨_, rfl⟩
      simp only [hs] at hnx hkl hks hsv
      obtain ⟨sid, skv, KD, swk, ssl, squ, sba, swa⟩ := s
      simp only [SvcD.val] at hsv
      simp only [] at hnx hkl hks
      obtain ⟨-, sa, sc, rfl⟩ := hks.shape
      have HNX := hide hnx.symm
      have HKL := hide hkl
      have HKS := hide hks
      have HSVC := hide hsv
      have HOB := hide hob
      have HEK := hide HWO.out.ext
      obtain ⟨wk, rfl⟩ : ∃ X : World, X = wr := ⟨_, rfl⟩
      have HCQ := hide (fun X (hX : Ext wk X) => cell_ext hX hqc)
      clear hnx hkl hks hsv hs hqc h2 h3 hob hO
      go_upto_region 9 with (fail)
      refine wp_region_ro 66 [9, 38, 39, 40, 41, 42, 43, 44] (fun w' => Ext wk w') (fun (t : Nat) (wI : World) (v : Value) => match t with | 9 => v = (.slice sa KD.length sc) | 38 => v = (.agg (encC c).toArray) | 39 => v = (.slice (some ⟨gq, 0, none⟩) Q.length qc) | 40 => v = (.int .i64 (k : Int)) | 41 => v = (.pointer (some ⟨gq, k, none⟩)) | 42 => v = (.int .i64 x) | 43 => v = (.agg #[.int .i64 sid, .slice sa KD.length sc, .int .i64 swk, .int .i64 ssl, .int .i64 squ, .int .i64 sba, .int .i64 swa]) | 44 => v = (.slice sa KD.length sc) | _ => True) (by kernel_rfl) rfl (by kernel_rfl) (by kernel_rfl) (by kernel_rfl) ?_ ?_ ?_ ?_ ?_
      ·intro t w' w'' v hR hv
       exact hv
      ·intro w' w'' h e
       exact Ext.trans (show Ext _ w' from h) e
      ·exact (Below.refl _ _).drew
      ·intro i o ho X w' hph hI hF K hK
       have hin : i < 8 := (Array.getElem?_eq_some_iff.1 ho).1
       have hi : i = 0 ∨ i = 1 ∨ i = 2 ∨ i = 3 ∨ i = 4 ∨ i = 5 ∨ i = 6 ∨ i = 7 := by omega
       rcases hi with rfl | rfl | rfl | rfl | rfl | rfl | rfl | rfl
       ·obtain rfl := Option.some.inj ho
        have e2 : X 2 = (.pointer (some ⟨b2, 0, none⟩)) := hF 2 (by kernel_rfl)
        have hx : Ext W w' := HEK.out.trans hph
        unfold wpOp
        simp only [ho]
        rw [if_pos (by rfl)]
        left
        rw [frame66]
        refine wp_load_mid 30 (.tmp 2) rfl b2 0 e2 (encC c) cd (BoxC.range (HBX.out w' hx)) hcd1 hcd2 Tryz.confSize (metK (hK.out (.agg (encC c).toArray) _ (Below.refl _ _) (fun d hd => by cases hd; exact rfl)) ?_)
        simp [frame66, Act.put, *]
       ·obtain rfl := Option.some.inj ho
        have e7 : X 7 = (.slice (some ⟨gq, 0, none⟩) Q.length qc) := hF 7 (by kernel_rfl)
        unfold wpOp
        simp only [ho]
        rw [if_pos (by rfl)]
        left
        rw [frame66]
        go_simp
        refine metK (hK.out ((.slice (some ⟨gq, 0, none⟩) Q.length qc)) _ (Below.refl _ _) (fun d hd => by cases hd; exact rfl)) ?_
        simp [frame66, Act.put, *]
       ·obtain rfl := Option.some.inj ho
        have e8 : X 8 = (.int .i64 (k : Int)) := hF 8 (by kernel_rfl)
        unfold wpOp
        simp only [ho]
        rw [if_pos (by rfl)]
        left
        rw [frame66]
        go_simp
        refine metK (hK.out ((.int .i64 (k : Int))) _ (Below.refl _ _) (fun d hd => by cases hd; exact rfl)) ?_
        simp [frame66, Act.put, *]
       ·obtain rfl := Option.some.inj ho
        have e39 : X 39 = _ := hI 39 (by kernel_rfl)
        have e40 : X 40 = _ := hI 40 (by kernel_rfl)
        unfold wpOp
        simp only [ho]
        rw [if_pos (by rfl)]
        left
        rw [frame66]
        go_simp
        refine metK (hK.out ((.pointer (some ⟨gq, k, none⟩))) _ (Below.refl _ _) (fun d hd => by cases hd; exact rfl)) ?_
        simp [frame66, Act.put, *]
       ·obtain rfl := Option.some.inj ho
        have e41 : X 41 = _ := hI 41 (by kernel_rfl)
        have q := HCQ.out w' hph
        unfold wpOp
        simp only [ho]
        rw [if_pos (by rfl)]
        left
        rw [frame66]
        go_simp
        refine metK (hK.out ((.int .i64 x)) _ (Below.refl _ _) (fun d hd => by cases hd; exact rfl)) ?_
        simp [frame66, Act.put, *]
       ·obtain rfl := Option.some.inj ho
        have e38 : X 38 = _ := hI 38 (by kernel_rfl)
        have e42 : X 42 = _ := hI 42 (by kernel_rfl)
        have hx : Ext W w' := HEK.out.trans hph
        unfold wpOp
        simp only [ho]
        rw [if_pos (by rfl)]
        left
        rw [frame66]
        go_simp
        refine (HSVC.out w' hx).mono ?_
        rintro e w9 ⟨rfl, E9⟩
        refine metK (hK.out (.agg #[.int .i64 sid, .slice sa KD.length sc, .int .i64 swk, .int .i64 ssl, .int .i64 squ, .int .i64 sba, .int .i64 swa]) w9 E9 (fun d hd => by cases hd; exact rfl)) ?_
        simp [frame66, Act.put, *]
       ·obtain rfl := Option.some.inj ho
        have e43 : X 43 = _ := hI 43 (by kernel_rfl)
        unfold wpOp
        simp only [ho]
        rw [if_pos (by rfl)]
        left
        rw [frame66]
        go_simp
        refine metK (hK.out ((.slice sa KD.length sc)) _ (Below.refl _ _) (fun d hd => by cases hd; exact rfl)) ?_
        simp [frame66, Act.put, *]
       ·obtain rfl := Option.some.inj ho
        have e44 : X 44 = _ := hI 44 (by kernel_rfl)
        unfold wpOp
        simp only [ho]
        rw [if_pos (by rfl)]
        left
        rw [frame66]
        go_simp
        refine metK (hK.out ((.slice sa KD.length sc)) _ (Below.refl _ _) (fun d hd => by cases hd; exact rfl)) ?_
        simp [frame66, Act.put, *]
      ·intro X w' hph hI
       have e9 : X 9 = _ := hI 9 (by kernel_rfl)
       have e38 : X 38 = _ := hI 38 (by kernel_rfl)
       have e39 : X 39 = _ := hI 39 (by kernel_rfl)
       have e40 : X 40 = _ := hI 40 (by kernel_rfl)
       have e41 : X 41 = _ := hI 41 (by kernel_rfl)
       have e42 : X 42 = _ := hI 42 (by kernel_rfl)
       have e43 : X 43 = _ := hI 43 (by kernel_rfl)
       have e44 : X 44 = _ := hI 44 (by kernel_rfl)
       clear hI
       simp only [overF, List.foldl_cons, List.foldl_nil, List.setIfInBounds_toArray, List.set_cons_succ, List.set_cons_zero, e9, e38, e39, e40, e41, e42, e43, e44]
       have hx9 : Ext wk w' := hph
       have HWO9 := hide (HWO.out.to hx9)
       have HQ9 := hide (owns_ext HQ.out hx9)
       clear hph hx9 e38 e39 e40 e41 e42 e43 e44
       generalize w' = W9 at *
       go_wp2_with fail
       go_loopw [5, 10] (fun v5 v10 wr3 => ∃ (j : Nat) (O2 : List ByteArray), j ≤ KD.length ∧ v10 = .int .i64 j ∧ O2 = addNew O (KD.take j) ∧ Hid (WO W wr3 v5 O2) ∧ Hid (wr3.ownsRow W.heap.size 3 1 (.slice (some ⟨gq, 0, none⟩) Q.length qc) Q.length (Q.flatMap encI))) (fun _ j _ => KD.length - (intOf j).toNat)
       case atStart => exact ⟨0, O, Nat.zero_le _, rfl, rfl, hide HWO9.out, hide HQ9.out⟩
       case round =>
        obtain ⟨j, O2, hj, rfl, hO2, hwo, hq⟩ := hrel
        have HWJ := hide hwo.out
        have HQJ := hide hq.out
        obtain ⟨va, vc, rfl⟩ := owns_shape HWJ.out.row
        clear hwo hq
        by_cases hltj : j < KD.length
        ·have hltjz : (j : Int) < KD.length := by omega
         have hwj : IntKind.i64.wrap ((j : Int) + 1) = ((j + 1 : Nat) : Int) := by have := HKL.out; rw [IntKind.wrap_i64]; omega
         obtain ⟨sb, so, rfl, -, hkc⟩ := strs_row HKS.out j hltj
         have hq := cell_ext HWJ.out.ext hkc
         have hsn := addNew_snoc (KD.take j) KD[j] O
         rw [← take_snoc KD j hltj, ← hO2] at hsn
         have hob : O2.length ≤ 200 := by
          have h1 := addNew_lenR O (KD.take j)
          have h2 := List.length_take_le j KD
          have h3 := HOB.out
          have h4 := HKL.out
          rw [← hO2] at h1
          omega
         generalize KD[j] = y at hq hsn
         have hha := hasT_any O2 y _ wr (Sl.of_own' (enc := encS) (fun _ => rfl) HWJ.out.row)
         by_cases hin : y ∈ O2
         ·have hht : hasT O2 y = true := hasT_iff.2 hin
          rw [if_pos hin] at hsn
          rw [hht] at hha
          have HHA := hide hha
          have HSN := hide hsn
          clear hha hht hin hkc hO2 hsn
          go_wp2_with fail
          refine HHA.out.mono ?_
          rintro e wz ⟨rfl, rfl⟩
          clear hq
          go_wp2
          go_roundw
          case rel => exact ⟨j + 1, O2, hltj, by go_num, HSN.out.symm, hide HWJ.out, hide HQJ.out⟩
          case measure => simp [intOf] <;> omega
         ·have hht : hasT O2 y = false := Bool.eq_false_iff.2 fun h => hin (hasT_iff.1 h)
          rw [if_neg hin] at hsn
          rw [hht] at hha
          have HHA := hide hha
          have HSN := hide hsn
          clear hha hht hin hkc hO2 hsn
          go_wp2_with fail
          refine HHA.out.mono ?_
          rintro e wz ⟨rfl, rfl⟩
          go_upto_region 14 with (fail)
          refine wp_region_lit ?_
          refine wpList_plain rfl fun Kq hKq => ?_
          go_simp
          refine hKq _ _ ?_
          clear hKq Kq
          refine wpList_plain rfl fun Kq hKq => ?_
          go_simp
          refine hKq _ _ ?_
          clear hKq Kq
          refine wpList_plain rfl fun Kq hKq => ?_
          go_simp
          refine hKq _ _ ?_
          clear hKq Kq
          refine wpList_plain rfl fun Kq hKq => ?_
          go_simp
          refine hKq _ _ ?_
          clear hKq Kq
          refine wpList_plain rfl fun Kq hKq => ?_
          go_simp
          refine hKq _ _ ?_
          clear hKq Kq
          refine wpList_plain rfl fun Kq hKq => ?_
          go_simp
          refine hKq _ _ ?_
          clear hKq Kq
          clear hq
          refine wpList_app1 rfl (.tmp 58) (.tmp 63) _ 9 rfl Tryz.underlying42 gInfoT (by decide) (by decide) W.heap.size _ O2.length (O2.flatMap encS) rfl HWJ.out.row [.string y] rfl (by simp [Value.oneCell']) rfl (by omega) HWJ.out.ext.size ?_
          intro v' w3 ho3 hk3 hp3
          have HWN := hide (HWJ.out.add ho3 hk3)
          have HQN := hide (owns_keepT HQJ.out hk3 (OfT.own HWJ.out.row) (by decide))
          obtain ⟨za, zc, rfl⟩ := owns_shape ho3
          clear ho3 hk3 hp3
          refine wpList_plain rfl fun Kq hKq => ?_
          go_simp
          refine hKq _ _ ?_
          clear hKq Kq
          refine wpList_nil ?_
          go_wp2
          go_roundw
          case rel => exact ⟨j + 1, O2 ++ [y], hltj, by go_num, HSN.out.symm, hide HWN.out, hide HQN.out⟩
          case measure => simp [intOf] <;> omega
        ·obtain rfl : j = KD.length := by omega
         have hltjz : ¬ (KD.length : Int) < KD.length := by omega
         rw [List.take_length] at hO2
         have HO2 := hide hO2
         clear hO2
         go_wp2
         go_roundw
         case rel => exact ⟨k + 1, O2, hlt2, by go_num, by rw [HO2.out, HNX.out], hide HWJ.out, hide HQJ.out⟩
         case measure => simp [intOf] <;> omega
     ·obtain rfl : k = Q.length := by omega
      have hltz2 : ¬ (Q.length : Int) < Q.length := by omega
      rw [List.take_length, HQW.out] at hO
      have HO := hide hO
      clear hO
      go_wp2
      go_roundw
      case rel => exact ⟨i + 1, O, by go_num, by rw [HO.out]; exact HWS.out, by rw [HO.out]; exact HWG.out, hide HWO.out⟩
      case measure => have h := HLE.out; simp [intOf] at h ⊢ <;> omega
  ·have hi : i = l.length := by have := hws.le; omega
   have hfin : l = wayC c [path] := by rw [← hwg, wayGo_end (nbP c) _ l i (by omega)]
   have hltz : ¬ (i : Int) < l.length := by omega
   have HF := hide hfin
   have HO := hide (owns_monoG HWL.out.row (show w.heap.size ≤ W.heap.size from HX.out.size))
   have HZZ := hide (HX.out.trans HEW.out)
   clear hws hwg hfin hle hi
   go_wp2
   go_ret
   exact ⟨_, rfl, by rw [← HF.out, HB2.out] at *; exact HO.out, HZZ.out⟩
set_option maxRecDepth 100000 in
set_option maxHeartbeats 16000000 in
/-- is a service within itself? -/
theorem rwithin_any33 (c : ConfD) (id : Int) (w : World) (h : GC w c) :
  Calls Tryz.prog 23 #[.agg (encC c).toArray, .int .i64 id] w fun e w' => e = .returned (.bool (withinB c id)) ∧ Ext w w' := by
 obtain ⟨cd, hcd1, hcd2⟩ := Tryz.confDesc
 have hx : Ext w (w.alloc (.cells (encC c).toArray 30)) := (Below.refl _ _).alloc (Nat.le_refl _) _
 have hb1 : BoxC (w.alloc (.cells (encC c).toArray 30)) w.heap.size c := heap_alloc_new w (.cells (encC c).toArray 30)
 have HG := hide (h.ext hx)
 have hsv := fun X (hX : Ext w X) => rsvc_any c id X (h.ext hX)
 have hks := (h.ext hx).find id
 have hkl := find_kids h.chk id
 have hksz := h.ksz id
 have href := within_ref c id
 obtain ⟨s, hs⟩ : ∃ s, findS c.S id = s := ⟨_, rfl⟩
 simp only [hs] at hsv hks hkl hksz href
 have HFS := hide hs
 obtain ⟨sid, skv, KD, swk, ssl, squ, sba, swa⟩ := s
 simp only [SvcD.val] at hsv
 simp only [] at hks hkl hksz href
 obtain ⟨-, sa, sc, rfl⟩ := hks.shape
 have HSVC := hide hsv
 have HKL := hide hkl
 have HKZ := hide hksz
 have HREF := hide href
 clear hsv hkl hksz href h hs
 go_enter Tryz.func23, Tryz.ntmps23
 go_upto_region 1 with (fail)
 show Code.wp _ _ _ _ (w.alloc (.cells (encC c).toArray 30))
 generalize w.alloc (.cells (encC c).toArray 30) = W at hx hb1 HG hks ⊢
 have HX := hide hx
 obtain ⟨b2, hb2⟩ : ∃ b, w.heap.size = b := ⟨_, rfl⟩
 rw [hb2] at hb1 ⊢
 have HBX := hide (fun X (hX : Ext W X) => BoxC.ext hb1 hX)
 have HKS := hide hks
 have hbx := HBX.out W (Below.refl _ _)
 clear hx hb1 hb2 hks
 refine wp_region_lit ?_
 refine wpList_load_mid rfl 30 (.tmp 2) rfl b2 0 rfl (encC c) cd hbx.range hcd1 hcd2 Tryz.confSize ?_
 refine wpList_plain rfl fun Kq hKq => ?_
 go_simp
 refine hKq _ _ ?_
 clear hKq Kq
 refine wpList_plain rfl fun Kq hKq => ?_
 go_simp
 refine (HSVC.out W HX.out).mono ?_
 rintro e W1 ⟨rfl, E1⟩
 refine hKq _ _ ?_
 clear hKq Kq
 have HE1 := hide E1
 clear E1 hbx
 refine wpList_plain rfl fun Kq hKq => ?_
 go_simp
 refine hKq _ _ ?_
 clear hKq Kq
 refine wpList_plain rfl fun Kq hKq => ?_
 go_simp
 refine hKq _ _ ?_
 clear hKq Kq
 refine wpList_nil ?_
 go_wp2_with fail
 go_loopw [6] (fun v6 wr => ∃ i : Nat, i ≤ KD.length ∧ v6 = .int .i64 i ∧ ((KD.take i).any fun k => (wayC c [k]).any fun p => (bothP c.R p).contains id) = false ∧ Ext W wr) (fun i _ => KD.length - (intOf i).toNat)
 case atStart => exact ⟨0, Nat.zero_le _, rfl, rfl, HE1.out⟩
 case round =>
  obtain ⟨i, hi, rfl, hno, hext⟩ := hrel
  have HEI := hide hext
  clear hext
  by_cases hlt : i < KD.length
  ·have hltz : (i : Int) < KD.length := by omega
   have hwi : IntKind.i64.wrap ((i : Int) + 1) = ((i + 1 : Nat) : Int) := by have := HKL.out; rw [IntKind.wrap_i64]; omega
   obtain ⟨sb, so, rfl, -, hkc⟩ := strs_row HKS.out i hlt
   have hqz := HKZ.out KD[i] (List.getElem_mem hlt)
   have hqm : KD[i] ∈ (findS c.S id).K := by rw [HFS.out]; exact List.getElem_mem hlt
   have hsi : ((KD.take (i + 1)).any fun k => (wayC c [k]).any fun p => (bothP c.R p).contains id) = ((wayC c [KD[i]]).any fun p => (bothP c.R p).contains id) := by
    rw [take_snoc KD i hlt, List.any_append, hno]
    simp
   generalize KD[i] = q at hkc hqz hqm hsi
   have hwa := fun X (hX : Ext W X) => rway_any c q X (HG.out.ext hX) hqz
   have hyz : ∀ p ∈ wayC c [q], SzB p := fun p hp => by
    obtain ⟨z, hz, hr⟩ := (wayC_mem c [q] p).1 hp
    rw [List.mem_singleton.1 hz] at hr
    cases hr with
    | refl => exact hqz
    | step _ h3 => exact kids_szR HG.out _ (nbP_all c _ _ h3)
   have hyl : (wayC c [q]).length ≤ 41 := by
    have h1 := (way_spec (nbP c) ([q] ++ allK c) ([q] ++ allK c).length [q] _ 0 (WaySt.start (nbP c) [q]) (fun p hp => List.mem_append_left _ hp) (fun a x hx => List.mem_append_right _ (nbP_all c a x hx)) (by omega)).len ([q] ++ allK c) (fun p hp => List.mem_append_left _ hp) (fun a x hx => List.mem_append_right _ (nbP_all c a x hx))
    have h2 := allK_lenR HG.out.chk
    have h3 : ([q] ++ allK c).length = 1 + (allK c).length := by simp; omega
    exact Nat.le_trans h1 (by omega)
   obtain ⟨Y, hY⟩ : ∃ Y, wayC c [q] = Y := ⟨_, rfl⟩
   rw [hY] at hyz hyl
   simp only [hY] at hwa
   have HYE := hide hY
   have HYZ := hide hyz
   have HYL := hide hyl
   have HWAY := hide hwa
   have HQM := hide hqm
   have HSI := hide hsi
   have HSTR := hide (fun X (hX : Ext W X) => cell_ext hX hkc)
   clear hY hyz hyl hwa hqm hsi hkc hqz hno
   go_upto_region 5 with (fail)
   refine wp_region_ro 49 [7, 19, 20, 21, 22, 23, 24] (fun w' => Ext wr w') (fun (t : Nat) (wI : World) (v : Value) => match t with | 7 => ∃ a cc, v = .slice a Y.length cc ∧ wI.ownsRow 0 9 1 v Y.length (Y.flatMap encS) | 19 => v = (.agg (encC c).toArray) | 20 => v = (.slice (some ⟨sb, so, none⟩) KD.length sc) | 21 => v = (.int .i64 (i : Int)) | 22 => v = (.pointer (some ⟨sb, so + i, none⟩)) | 23 => v = (.string q) | 24 => ∃ a cc, v = .slice a Y.length cc ∧ wI.ownsRow 0 9 1 v Y.length (Y.flatMap encS) | _ => True) (by kernel_rfl) rfl (by kernel_rfl) (by kernel_rfl) (by kernel_rfl) ?_ ?_ ?_ ?_ ?_
   ·intro t w' w'' v hR hv
    split at hv <;> first | exact hv | (obtain ⟨a, cc, h1, h2⟩ := hv; exact ⟨a, cc, h1, owns_ext h2 hR⟩)
   ·intro w' w'' h e
    exact Ext.trans (show Ext _ w' from h) e
   ·exact (Below.refl _ _).drew
   ·intro i o ho X w' hph hI hF K hK
    have hin : i < 7 := (Array.getElem?_eq_some_iff.1 ho).1
    have hi : i = 0 ∨ i = 1 ∨ i = 2 ∨ i = 3 ∨ i = 4 ∨ i = 5 ∨ i = 6 := by omega
    rcases hi with rfl | rfl | rfl | rfl | rfl | rfl | rfl
    ·obtain rfl := Option.some.inj ho
     have e2 : X 2 = (.pointer (some ⟨b2, 0, none⟩)) := hF 2 (by kernel_rfl)
     have hx : Ext W w' := HEI.out.trans hph
     unfold wpOp
     simp only [ho]
     rw [if_pos (by rfl)]
     left
     rw [frame49]
     refine wp_load_mid 30 (.tmp 2) rfl b2 0 e2 (encC c) cd (BoxC.range (HBX.out w' hx)) hcd1 hcd2 Tryz.confSize (metK (hK.out (.agg (encC c).toArray) _ (Below.refl _ _) (fun d hd => by cases hd; exact rfl)) ?_)
     simp [frame49, Act.put, *]
    ·obtain rfl := Option.some.inj ho
     have e5 : X 5 = (.slice (some ⟨sb, so, none⟩) KD.length sc) := hF 5 (by kernel_rfl)
     unfold wpOp
     simp only [ho]
     rw [if_pos (by rfl)]
     left
     rw [frame49]
     go_simp
     refine metK (hK.out ((.slice (some ⟨sb, so, none⟩) KD.length sc)) _ (Below.refl _ _) (fun d hd => by cases hd; exact rfl)) ?_
     simp [frame49, Act.put, *]
    ·obtain rfl := Option.some.inj ho
     have e6 : X 6 = (.int .i64 (i : Int)) := hF 6 (by kernel_rfl)
     unfold wpOp
     simp only [ho]
     rw [if_pos (by rfl)]
     left
     rw [frame49]
     go_simp
     refine metK (hK.out ((.int .i64 (i : Int))) _ (Below.refl _ _) (fun d hd => by cases hd; exact rfl)) ?_
     simp [frame49, Act.put, *]
    ·obtain rfl := Option.some.inj ho
     have e20 : X 20 = _ := hI 20 (by kernel_rfl)
     have e21 : X 21 = _ := hI 21 (by kernel_rfl)
     unfold wpOp
     simp only [ho]
     rw [if_pos (by rfl)]
     left
     rw [frame49]
     go_simp
     refine metK (hK.out ((.pointer (some ⟨sb, so + i, none⟩))) _ (Below.refl _ _) (fun d hd => by cases hd; exact rfl)) ?_
     simp [frame49, Act.put, *]
    ·obtain rfl := Option.some.inj ho
     have e22 : X 22 = _ := hI 22 (by kernel_rfl)
     have q1 := HSTR.out w' (HEI.out.trans hph)
     unfold wpOp
     simp only [ho]
     rw [if_pos (by rfl)]
     left
     rw [frame49]
     go_simp
     refine metK (hK.out ((.string q)) _ (Below.refl _ _) (fun d hd => by cases hd; exact rfl)) ?_
     simp [frame49, Act.put, *]
    ·obtain rfl := Option.some.inj ho
     have e19 : X 19 = _ := hI 19 (by kernel_rfl)
     have e23 : X 23 = _ := hI 23 (by kernel_rfl)
     have hx : Ext W w' := HEI.out.trans hph
     unfold wpOp
     simp only [ho]
     rw [if_pos (by rfl)]
     left
     rw [frame49]
     go_simp
     refine (HWAY.out w' hx).mono ?_
     rintro e w9 ⟨u9, rfl, ho9, E9⟩
     obtain ⟨ua, uc, rfl⟩ := owns_shape ho9
     refine metK (hK.out (.slice ua Y.length uc) w9 E9 (fun d hd => by cases hd; exact ⟨ua, uc, rfl, owns_monoG ho9 (Nat.zero_le _)⟩)) ?_
     simp [frame49, Act.put, *]
    ·obtain rfl := Option.some.inj ho
     have y24 := hI 24 (by kernel_rfl)
     obtain ⟨ua, uc, e24, ho9⟩ := y24
     rw [e24] at ho9
     unfold wpOp
     simp only [ho]
     rw [if_pos (by rfl)]
     left
     rw [frame49]
     go_simp
     refine metK (hK.out (.slice ua Y.length uc) w' (Below.refl _ _) (fun d hd => by cases hd; exact ⟨ua, uc, rfl, ho9⟩)) ?_
     simp [frame49, Act.put, *]
   ·intro X w' hph hI
    have y7 := hI 7 (by kernel_rfl)
    have e19 : X 19 = _ := hI 19 (by kernel_rfl)
    have e20 : X 20 = _ := hI 20 (by kernel_rfl)
    have e21 : X 21 = _ := hI 21 (by kernel_rfl)
    have e22 : X 22 = _ := hI 22 (by kernel_rfl)
    have e23 : X 23 = _ := hI 23 (by kernel_rfl)
    have y24 := hI 24 (by kernel_rfl)
    clear hI
    simp only [overF, List.foldl_cons, List.foldl_nil, List.setIfInBounds_toArray, List.set_cons_succ, List.set_cons_zero, e19, e20, e21, e22, e23]
    obtain ⟨ua, uc, hv7, ho7⟩ := y7
    rw [hv7] at ho7
    simp only [hv7]
    have HE6 := hide (HEI.out.trans (show Ext wr w' from hph))
    have HY := hide ho7
    clear hph hv7 ho7 y24 e19 e20 e21 e22 e23
    generalize X 24 = u24
    generalize w' = W6 at *
    go_wp2_with fail
    go_loopw [8] (fun v8 wj => ∃ k : Nat, k ≤ Y.length ∧ v8 = .int .i64 k ∧ ((Y.take k).any fun p => (bothP c.R p).contains id) = false ∧ Ext W6 wj) (fun k _ => Y.length - (intOf k).toNat)
    case atStart => exact ⟨0, Nat.zero_le _, rfl, rfl, Below.refl _ _⟩
    case round =>
     obtain ⟨k, hk, rfl, hno, hext⟩ := hrel
     have HEJ0 := hide hext
     have HEJ := hide (HE6.out.trans hext)
     clear hext
     by_cases hltk : k < Y.length
     ·have hltkz : (k : Int) < Y.length := by omega
      have hwk : IntKind.i64.wrap ((k : Int) + 1) = ((k + 1 : Nat) : Int) := by have := HYL.out; rw [IntKind.wrap_i64]; omega
      obtain ⟨gy, cap, hgv, -⟩ := owns_block HY.out (by omega)
      injection hgv with h1 h2 h3
      subst h1
      obtain ⟨by2, oy, ey, -, hyc⟩ := strs_row (Sl.of_own' (enc := encS) (fun _ => rfl) HY.out : Strs W6 (.slice (some ⟨gy, 0, none⟩) Y.length uc) Y) k hltk
      cases ey
      rw [Nat.zero_add] at hyc
      have hpz := HYZ.out Y[k] (List.getElem_mem hltk)
      have hmem : Y[k] ∈ Y := List.getElem_mem hltk
      have hsn : ((Y.take (k + 1)).any fun p => (bothP c.R p).contains id) = ((bothP c.R Y[k]).contains id) := by
       rw [take_snoc Y k hltk, List.any_append, hno]
       simp
      generalize Y[k] = p at hyc hpz hsn hmem
      have hse := fun X (hX : Ext W X) => rser_any c p X (HG.out.ext hX) hpz
      have hco := fun X (hX : Ext W X) => rcop_any c p X (HG.out.ext hX) hpz
      have hbo : (bothP c.R p).contains id = ((targS c.R p).contains id || (targC c.R p).contains id) := by
       rw [Bool.eq_iff_iff]
       simp [bothP]
      rw [hbo] at hsn
      have hyes : ((targS c.R p).contains id || (targC c.R p).contains id) = true → withinB c id = true := fun h => by
       rw [within_ref]
       refine List.any_eq_true.2 ⟨q, HQM.out, List.any_eq_true.2 ⟨p, ?_, by rw [hbo]; exact h⟩⟩
       rw [HYE.out]
       exact hmem
      generalize targS c.R p = A at hse hsn hyes
      generalize targC c.R p = C at hco hsn hyes
      have HSER := hide hse
      have HCOP := hide hco
      obtain ⟨wj, rfl⟩ : ∃ x : World, x = wr := ⟨_, rfl⟩
      have HCY := hide (fun X (hX : Ext wj X) => cell_ext (HEJ0.out.trans hX) hyc)
      clear hse hco hyc hpz hbo hno hmem h2 h3
      cases hb1 : A.contains id with
      | true =>
       rw [hb1] at hyes
       have HYES := hide (hyes rfl)
       have HBA := hide hb1
       clear hyes hb1 hsn
       go_upto_region 9 with (fail)
       refine wp_region_ro 49 [31, 32, 33, 34, 35, 36, 37, 38, 39, 40, 41, 42, 43, 44, 45, 46, 47, 48] (fun w' => Ext wj w') (fun (t : Nat) (wI : World) (v : Value) => match t with | 31 => v = (.agg (encC c).toArray) | 32 => v = (.slice (some ⟨gy, 0, none⟩) Y.length uc) | 33 => v = (.int .i64 (k : Int)) | 34 => v = (.pointer (some ⟨gy, k, none⟩)) | 35 => v = (.string p) | 36 => ∃ a cc, v = .slice a A.length cc ∧ Ints wI v A | 37 => v = (.int .i64 id) | 38 => v = (.bool true) | 39 => v = (.bool true) | 40 => v = undef | 41 => v = undef | 42 => v = undef | 43 => v = undef | 44 => v = undef | 45 => v = undef | 46 => v = undef | 47 => v = undef | 48 => v = (.bool true) | _ => True) (by kernel_rfl) rfl (by kernel_rfl) (by kernel_rfl) (by kernel_rfl) ?_ ?_ ?_ ?_ ?_
       ·intro t w' w'' v hR hv
        split at hv <;> first | exact hv | (obtain ⟨a, cc, h1, h2⟩ := hv; exact ⟨a, cc, h1, h2.ext hR⟩)
       ·intro w' w'' h e
        exact Ext.trans (show Ext _ w' from h) e
       ·exact (Below.refl _ _).drew
       ·intro i o ho X w' hph hI hF K hK
        have hin : i < 18 := (Array.getElem?_eq_some_iff.1 ho).1
        have hi : i = 0 ∨ i = 1 ∨ i = 2 ∨ i = 3 ∨ i = 4 ∨ i = 5 ∨ i = 6 ∨ i = 7 ∨ i = 8 ∨ i = 9 ∨ i = 10 ∨ i = 11 ∨ i = 12 ∨ i = 13 ∨ i = 14 ∨ i = 15 ∨ i = 16 ∨ i = 17 := by omega
        rcases hi with rfl | rfl | rfl | rfl | rfl | rfl | rfl | rfl | rfl | rfl | rfl | rfl | rfl | rfl | rfl | rfl | rfl | rfl
        ·obtain rfl := Option.some.inj ho
         have e2 : X 2 = (.pointer (some ⟨b2, 0, none⟩)) := hF 2 (by kernel_rfl)
         have hx : Ext W w' := HEJ.out.trans hph
         unfold wpOp
         simp only [ho]
         rw [if_pos (by rfl)]
         left
         rw [frame49]
         refine wp_load_mid 30 (.tmp 2) rfl b2 0 e2 (encC c) cd (BoxC.range (HBX.out w' hx)) hcd1 hcd2 Tryz.confSize (metK (hK.out (.agg (encC c).toArray) _ (Below.refl _ _) (fun d hd => by cases hd; exact rfl)) ?_)
         simp [frame49, Act.put, *]
        ·obtain rfl := Option.some.inj ho
         have e7 : X 7 = (.slice (some ⟨gy, 0, none⟩) Y.length uc) := hF 7 (by kernel_rfl)
         unfold wpOp
         simp only [ho]
         rw [if_pos (by rfl)]
         left
         rw [frame49]
         go_simp
         refine metK (hK.out ((.slice (some ⟨gy, 0, none⟩) Y.length uc)) _ (Below.refl _ _) (fun d hd => by cases hd; exact rfl)) ?_
         simp [frame49, Act.put, *]
        ·obtain rfl := Option.some.inj ho
         have e8 : X 8 = (.int .i64 (k : Int)) := hF 8 (by kernel_rfl)
         unfold wpOp
         simp only [ho]
         rw [if_pos (by rfl)]
         left
         rw [frame49]
         go_simp
         refine metK (hK.out ((.int .i64 (k : Int))) _ (Below.refl _ _) (fun d hd => by cases hd; exact rfl)) ?_
         simp [frame49, Act.put, *]
        ·obtain rfl := Option.some.inj ho
         have e32 : X 32 = _ := hI 32 (by kernel_rfl)
         have e33 : X 33 = _ := hI 33 (by kernel_rfl)
         unfold wpOp
         simp only [ho]
         rw [if_pos (by rfl)]
         left
         rw [frame49]
         go_simp
         refine metK (hK.out ((.pointer (some ⟨gy, k, none⟩))) _ (Below.refl _ _) (fun d hd => by cases hd; exact rfl)) ?_
         simp [frame49, Act.put, *]
        ·obtain rfl := Option.some.inj ho
         have e34 : X 34 = _ := hI 34 (by kernel_rfl)
         have q := HCY.out w' hph
         unfold wpOp
         simp only [ho]
         rw [if_pos (by rfl)]
         left
         rw [frame49]
         go_simp
         refine metK (hK.out ((.string p)) _ (Below.refl _ _) (fun d hd => by cases hd; exact rfl)) ?_
         simp [frame49, Act.put, *]
        ·obtain rfl := Option.some.inj ho
         have e31 : X 31 = _ := hI 31 (by kernel_rfl)
         have e35 : X 35 = _ := hI 35 (by kernel_rfl)
         have hx : Ext W w' := HEJ.out.trans hph
         unfold wpOp
         simp only [ho]
         rw [if_pos (by rfl)]
         left
         rw [frame49]
         go_simp
         refine (HSER.out w' hx).mono ?_
         rintro e w9 ⟨u9, rfl, ho9, E9⟩
         obtain ⟨ua, uc2, rfl⟩ := owns_shape ho9
         refine metK (hK.out (.slice ua A.length uc2) w9 E9 (fun d hd => by cases hd; exact ⟨ua, uc2, rfl, Sl.of_own' (enc := encI) (fun _ => rfl) ho9⟩)) ?_
         simp [frame49, Act.put, *]
        ·obtain rfl := Option.some.inj ho
         have e1 : X 1 = (.int .i64 id) := hF 1 (by kernel_rfl)
         unfold wpOp
         simp only [ho]
         rw [if_pos (by rfl)]
         left
         rw [frame49]
         go_simp
         refine metK (hK.out ((.int .i64 id)) _ (Below.refl _ _) (fun d hd => by cases hd; exact rfl)) ?_
         simp [frame49, Act.put, *]
        ·obtain rfl := Option.some.inj ho
         have y36 := hI 36 (by kernel_rfl)
         have e37 : X 37 = _ := hI 37 (by kernel_rfl)
         obtain ⟨ua, uc2, e36, hi9⟩ := y36
         rw [e36] at hi9
         unfold wpOp
         simp only [ho]
         rw [if_pos (by rfl)]
         left
         rw [frame49]
         go_simp
         refine (has_any A id _ w' hi9).mono ?_
         rintro e w9 ⟨rfl, rfl⟩
         rw [HBA.out]
         refine metK (hK.out (.bool true) w' (Below.refl _ _) (fun d hd => by cases hd; exact rfl)) ?_
         simp [frame49, Act.put, *]
        ·obtain rfl := Option.some.inj ho
         have e38 : X 38 = _ := hI 38 (by kernel_rfl)
         unfold wpOp
         simp only [ho]
         rw [if_pos (by rfl)]
         left
         rw [frame49]
         go_simp
         refine metK (hK.out ((.bool true)) _ (Below.refl _ _) (fun d hd => by cases hd; exact rfl)) ?_
         simp [frame49, Act.put, *]
        ·obtain rfl := Option.some.inj ho
         have e2 : X 2 = (.pointer (some ⟨b2, 0, none⟩)) := hF 2 (by kernel_rfl)
         have e39 : X 39 = _ := hI 39 (by kernel_rfl)
         unfold wpOp
         simp only [ho]
         rw [frame49]
         simp only [e39]
         rw [if_neg (by intro h; exact absurd (show false = true from h) (by decide))]
         refine metK (hK.out undef _ (Below.refl _ _) (fun d hd => by cases hd; exact rfl)) ?_
         simp [frame49, Act.put, *]
        ·obtain rfl := Option.some.inj ho
         have e7 : X 7 = (.slice (some ⟨gy, 0, none⟩) Y.length uc) := hF 7 (by kernel_rfl)
         have e39 : X 39 = _ := hI 39 (by kernel_rfl)
         unfold wpOp
         simp only [ho]
         rw [frame49]
         simp only [e39]
         rw [if_neg (by intro h; exact absurd (show false = true from h) (by decide))]
         refine metK (hK.out undef _ (Below.refl _ _) (fun d hd => by cases hd; exact rfl)) ?_
         simp [frame49, Act.put, *]
        ·obtain rfl := Option.some.inj ho
         have e8 : X 8 = (.int .i64 (k : Int)) := hF 8 (by kernel_rfl)
         have e39 : X 39 = _ := hI 39 (by kernel_rfl)
         unfold wpOp
         simp only [ho]
         rw [frame49]
         simp only [e39]
         rw [if_neg (by intro h; exact absurd (show false = true from h) (by decide))]
         refine metK (hK.out undef _ (Below.refl _ _) (fun d hd => by cases hd; exact rfl)) ?_
         simp [frame49, Act.put, *]
        ·obtain rfl := Option.some.inj ho
         have e39 : X 39 = _ := hI 39 (by kernel_rfl)
         have e41 : X 41 = _ := hI 41 (by kernel_rfl)
         have e42 : X 42 = _ := hI 42 (by kernel_rfl)
         unfold wpOp
         simp only [ho]
         rw [frame49]
         simp only [e39]
         rw [if_neg (by intro h; exact absurd (show false = true from h) (by decide))]
         refine metK (hK.out undef _ (Below.refl _ _) (fun d hd => by cases hd; exact rfl)) ?_
         simp [frame49, Act.put, *]
        ·obtain rfl := Option.some.inj ho
         have e39 : X 39 = _ := hI 39 (by kernel_rfl)
         have e43 : X 43 = _ := hI 43 (by kernel_rfl)
         unfold wpOp
         simp only [ho]
         rw [frame49]
         simp only [e39]
         rw [if_neg (by intro h; exact absurd (show false = true from h) (by decide))]
         refine metK (hK.out undef _ (Below.refl _ _) (fun d hd => by cases hd; exact rfl)) ?_
         simp [frame49, Act.put, *]
        ·obtain rfl := Option.some.inj ho
         have e39 : X 39 = _ := hI 39 (by kernel_rfl)
         have e40 : X 40 = _ := hI 40 (by kernel_rfl)
         have e44 : X 44 = _ := hI 44 (by kernel_rfl)
         unfold wpOp
         simp only [ho]
         rw [frame49]
         simp only [e39]
         rw [if_neg (by intro h; exact absurd (show false = true from h) (by decide))]
         refine metK (hK.out undef _ (Below.refl _ _) (fun d hd => by cases hd; exact rfl)) ?_
         simp [frame49, Act.put, *]
        ·obtain rfl := Option.some.inj ho
         have e1 : X 1 = (.int .i64 id) := hF 1 (by kernel_rfl)
         have e39 : X 39 = _ := hI 39 (by kernel_rfl)
         unfold wpOp
         simp only [ho]
         rw [frame49]
         simp only [e39]
         rw [if_neg (by intro h; exact absurd (show false = true from h) (by decide))]
         refine metK (hK.out undef _ (Below.refl _ _) (fun d hd => by cases hd; exact rfl)) ?_
         simp [frame49, Act.put, *]
        ·obtain rfl := Option.some.inj ho
         have e39 : X 39 = _ := hI 39 (by kernel_rfl)
         have e45 : X 45 = _ := hI 45 (by kernel_rfl)
         have e46 : X 46 = _ := hI 46 (by kernel_rfl)
         unfold wpOp
         simp only [ho]
         rw [frame49]
         simp only [e39]
         rw [if_neg (by intro h; exact absurd (show false = true from h) (by decide))]
         refine metK (hK.out undef _ (Below.refl _ _) (fun d hd => by cases hd; exact rfl)) ?_
         simp [frame49, Act.put, *]
        ·obtain rfl := Option.some.inj ho
         have e39 : X 39 = _ := hI 39 (by kernel_rfl)
         have e47 : X 47 = _ := hI 47 (by kernel_rfl)
         unfold wpOp
         simp only [ho]
         rw [if_pos (by rfl)]
         left
         rw [frame49]
         go_simp
         refine metK (hK.out ((.bool true)) _ (Below.refl _ _) (fun d hd => by cases hd; exact rfl)) ?_
         simp [frame49, Act.put, *]
       ·intro X w' hph hI
        have e31 : X 31 = _ := hI 31 (by kernel_rfl)
        have e32 : X 32 = _ := hI 32 (by kernel_rfl)
        have e33 : X 33 = _ := hI 33 (by kernel_rfl)
        have e34 : X 34 = _ := hI 34 (by kernel_rfl)
        have e35 : X 35 = _ := hI 35 (by kernel_rfl)
        have y36 := hI 36 (by kernel_rfl)
        have e37 : X 37 = _ := hI 37 (by kernel_rfl)
        have e38 : X 38 = _ := hI 38 (by kernel_rfl)
        have e39 : X 39 = _ := hI 39 (by kernel_rfl)
        have e40 : X 40 = _ := hI 40 (by kernel_rfl)
        have e41 : X 41 = _ := hI 41 (by kernel_rfl)
        have e42 : X 42 = _ := hI 42 (by kernel_rfl)
        have e43 : X 43 = _ := hI 43 (by kernel_rfl)
        have e44 : X 44 = _ := hI 44 (by kernel_rfl)
        have e45 : X 45 = _ := hI 45 (by kernel_rfl)
        have e46 : X 46 = _ := hI 46 (by kernel_rfl)
        have e47 : X 47 = _ := hI 47 (by kernel_rfl)
        have e48 : X 48 = _ := hI 48 (by kernel_rfl)
        clear hI
        simp only [overF, List.foldl_cons, List.foldl_nil, List.setIfInBounds_toArray, List.set_cons_succ, List.set_cons_zero, e31, e32, e33, e34, e35, e37, e38, e39, e40, e41, e42, e43, e44, e45, e46, e47, e48]
        have hx9 : Ext wj w' := hph
        have HZ := hide (HX.out.trans (HEJ.out.trans hx9))
        clear hph hx9 e31 e32 e33 e34 e35 e37 e38 e39 e40 e41 e42 e43 e44 e45 e46 e47 e48 y36
        generalize w' = W9 at *
        go_wp2
        go_ret
        exact ⟨ret_bool HYES.out.symm, HZ.out⟩
      | false =>
       rw [hb1, Bool.false_or] at hyes hsn
       have HBA := hide hb1
       clear hb1
       cases hb2 : C.contains id with
       | true =>
        have HYES := hide (hyes hb2)
        have HBC := hide hb2
        clear hyes hb2 hsn
        go_upto_region 9 with (fail)
        refine wp_region_ro 49 [31, 32, 33, 34, 35, 36, 37, 38, 39, 40, 41, 42, 43, 44, 45, 46, 47, 48] (fun w' => Ext wj w') (fun (t : Nat) (wI : World) (v : Value) => match t with | 31 => v = (.agg (encC c).toArray) | 32 => v = (.slice (some ⟨gy, 0, none⟩) Y.length uc) | 33 => v = (.int .i64 (k : Int)) | 34 => v = (.pointer (some ⟨gy, k, none⟩)) | 35 => v = (.string p) | 36 => ∃ a cc, v = .slice a A.length cc ∧ Ints wI v A | 37 => v = (.int .i64 id) | 38 => v = (.bool false) | 39 => v = (.bool false) | 40 => v = (.agg (encC c).toArray) | 41 => v = (.slice (some ⟨gy, 0, none⟩) Y.length uc) | 42 => v = (.int .i64 (k : Int)) | 43 => v = (.pointer (some ⟨gy, k, none⟩)) | 44 => v = (.string p) | 45 => ∃ a cc, v = .slice a C.length cc ∧ Ints wI v C | 46 => v = (.int .i64 id) | 47 => v = (.bool true) | 48 => v = (.bool true) | _ => True) (by kernel_rfl) rfl (by kernel_rfl) (by kernel_rfl) (by kernel_rfl) ?_ ?_ ?_ ?_ ?_
        ·intro t w' w'' v hR hv
         split at hv <;> first | exact hv | (obtain ⟨a, cc, h1, h2⟩ := hv; exact ⟨a, cc, h1, h2.ext hR⟩)
        ·intro w' w'' h e
         exact Ext.trans (show Ext _ w' from h) e
        ·exact (Below.refl _ _).drew
        ·intro i o ho X w' hph hI hF K hK
         have hin : i < 18 := (Array.getElem?_eq_some_iff.1 ho).1
         have hi : i = 0 ∨ i = 1 ∨ i = 2 ∨ i = 3 ∨ i = 4 ∨ i = 5 ∨ i = 6 ∨ i = 7 ∨ i = 8 ∨ i = 9 ∨ i = 10 ∨ i = 11 ∨ i = 12 ∨ i = 13 ∨ i = 14 ∨ i = 15 ∨ i = 16 ∨ i = 17 := by omega
         rcases hi with rfl | rfl | rfl | rfl | rfl | rfl | rfl | rfl | rfl | rfl | rfl | rfl | rfl | rfl | rfl | rfl | rfl | rfl
         ·obtain rfl := Option.some.inj ho
          have e2 : X 2 = (.pointer (some ⟨b2, 0, none⟩)) := hF 2 (by kernel_rfl)
          have hx : Ext W w' := HEJ.out.trans hph
          unfold wpOp
          simp only [ho]
          rw [if_pos (by rfl)]
          left
          rw [frame49]
          refine wp_load_mid 30 (.tmp 2) rfl b2 0 e2 (encC c) cd (BoxC.range (HBX.out w' hx)) hcd1 hcd2 Tryz.confSize (metK (hK.out (.agg (encC c).toArray) _ (Below.refl _ _) (fun d hd => by cases hd; exact rfl)) ?_)
          simp [frame49, Act.put, *]
         ·obtain rfl := Option.some.inj ho
          have e7 : X 7 = (.slice (some ⟨gy, 0, none⟩) Y.length uc) := hF 7 (by kernel_rfl)
          unfold wpOp
          simp only [ho]
          rw [if_pos (by rfl)]
          left
          rw [frame49]
          go_simp
          refine metK (hK.out ((.slice (some ⟨gy, 0, none⟩) Y.length uc)) _ (Below.refl _ _) (fun d hd => by cases hd; exact rfl)) ?_
          simp [frame49, Act.put, *]
         ·obtain rfl := Option.some.inj ho
          have e8 : X 8 = (.int .i64 (k : Int)) := hF 8 (by kernel_rfl)
          unfold wpOp
          simp only [ho]
          rw [if_pos (by rfl)]
          left
          rw [frame49]
          go_simp
          refine metK (hK.out ((.int .i64 (k : Int))) _ (Below.refl _ _) (fun d hd => by cases hd; exact rfl)) ?_
          simp [frame49, Act.put, *]
         ·obtain rfl := Option.some.inj ho
          have e32 : X 32 = _ := hI 32 (by kernel_rfl)
          have e33 : X 33 = _ := hI 33 (by kernel_rfl)
          unfold wpOp
          simp only [ho]
          rw [if_pos (by rfl)]
          left
          rw [frame49]
          go_simp
          refine metK (hK.out ((.pointer (some ⟨gy, k, none⟩))) _ (Below.refl _ _) (fun d hd => by cases hd; exact rfl)) ?_
          simp [frame49, Act.put, *]
         ·obtain rfl := Option.some.inj ho
          have e34 : X 34 = _ := hI 34 (by kernel_rfl)
          have q := HCY.out w' hph
          unfold wpOp
          simp only [ho]
          rw [if_pos (by rfl)]
          left
          rw [frame49]
          go_simp
          refine metK (hK.out ((.string p)) _ (Below.refl _ _) (fun d hd => by cases hd; exact rfl)) ?_
          simp [frame49, Act.put, *]
         ·obtain rfl := Option.some.inj ho
          have e31 : X 31 = _ := hI 31 (by kernel_rfl)
          have e35 : X 35 = _ := hI 35 (by kernel_rfl)
          have hx : Ext W w' := HEJ.out.trans hph
          unfold wpOp
          simp only [ho]
          rw [if_pos (by rfl)]
          left
          rw [frame49]
          go_simp
          refine (HSER.out w' hx).mono ?_
          rintro e w9 ⟨u9, rfl, ho9, E9⟩
          obtain ⟨ua, uc2, rfl⟩ := owns_shape ho9
          refine metK (hK.out (.slice ua A.length uc2) w9 E9 (fun d hd => by cases hd; exact ⟨ua, uc2, rfl, Sl.of_own' (enc := encI) (fun _ => rfl) ho9⟩)) ?_
          simp [frame49, Act.put, *]
         ·obtain rfl := Option.some.inj ho
          have e1 : X 1 = (.int .i64 id) := hF 1 (by kernel_rfl)
          unfold wpOp
          simp only [ho]
          rw [if_pos (by rfl)]
          left
          rw [frame49]
          go_simp
          refine metK (hK.out ((.int .i64 id)) _ (Below.refl _ _) (fun d hd => by cases hd; exact rfl)) ?_
          simp [frame49, Act.put, *]
         ·obtain rfl := Option.some.inj ho
          have y36 := hI 36 (by kernel_rfl)
          have e37 : X 37 = _ := hI 37 (by kernel_rfl)
          obtain ⟨ua, uc2, e36, hi9⟩ := y36
          rw [e36] at hi9
          unfold wpOp
          simp only [ho]
          rw [if_pos (by rfl)]
          left
          rw [frame49]
          go_simp
          refine (has_any A id _ w' hi9).mono ?_
          rintro e w9 ⟨rfl, rfl⟩
          rw [HBA.out]
          refine metK (hK.out (.bool false) w' (Below.refl _ _) (fun d hd => by cases hd; exact rfl)) ?_
          simp [frame49, Act.put, *]
         ·obtain rfl := Option.some.inj ho
          have e38 : X 38 = _ := hI 38 (by kernel_rfl)
          unfold wpOp
          simp only [ho]
          rw [if_pos (by rfl)]
          left
          rw [frame49]
          go_simp
          refine metK (hK.out ((.bool false)) _ (Below.refl _ _) (fun d hd => by cases hd; exact rfl)) ?_
          simp [frame49, Act.put, *]
         ·obtain rfl := Option.some.inj ho
          have e2 : X 2 = (.pointer (some ⟨b2, 0, none⟩)) := hF 2 (by kernel_rfl)
          have e39 : X 39 = _ := hI 39 (by kernel_rfl)
          have hx : Ext W w' := HEJ.out.trans hph
          unfold wpOp
          simp only [ho]
          rw [frame49]
          simp only [e39]
          rw [if_pos (by rfl)]
          left
          refine wp_load_mid 30 (.tmp 2) rfl b2 0 e2 (encC c) cd (BoxC.range (HBX.out w' hx)) hcd1 hcd2 Tryz.confSize (metK (hK.out (.agg (encC c).toArray) _ (Below.refl _ _) (fun d hd => by cases hd; exact rfl)) ?_)
          simp [frame49, Act.put, *]
         ·obtain rfl := Option.some.inj ho
          have e7 : X 7 = (.slice (some ⟨gy, 0, none⟩) Y.length uc) := hF 7 (by kernel_rfl)
          have e39 : X 39 = _ := hI 39 (by kernel_rfl)
          unfold wpOp
          simp only [ho]
          rw [frame49]
          simp only [e39]
          rw [if_pos (by rfl)]
          left
          go_simp
          refine metK (hK.out ((.slice (some ⟨gy, 0, none⟩) Y.length uc)) _ (Below.refl _ _) (fun d hd => by cases hd; exact rfl)) ?_
          simp [frame49, Act.put, *]
         ·obtain rfl := Option.some.inj ho
          have e8 : X 8 = (.int .i64 (k : Int)) := hF 8 (by kernel_rfl)
          have e39 : X 39 = _ := hI 39 (by kernel_rfl)
          unfold wpOp
          simp only [ho]
          rw [frame49]
          simp only [e39]
          rw [if_pos (by rfl)]
          left
          go_simp
          refine metK (hK.out ((.int .i64 (k : Int))) _ (Below.refl _ _) (fun d hd => by cases hd; exact rfl)) ?_
          simp [frame49, Act.put, *]
         ·obtain rfl := Option.some.inj ho
          have e39 : X 39 = _ := hI 39 (by kernel_rfl)
          have e41 : X 41 = _ := hI 41 (by kernel_rfl)
          have e42 : X 42 = _ := hI 42 (by kernel_rfl)
          unfold wpOp
          simp only [ho]
          rw [frame49]
          simp only [e39]
          rw [if_pos (by rfl)]
          left
          go_simp
          refine metK (hK.out ((.pointer (some ⟨gy, k, none⟩))) _ (Below.refl _ _) (fun d hd => by cases hd; exact rfl)) ?_
          simp [frame49, Act.put, *]
         ·obtain rfl := Option.some.inj ho
          have e39 : X 39 = _ := hI 39 (by kernel_rfl)
          have e43 : X 43 = _ := hI 43 (by kernel_rfl)
          have q := HCY.out w' hph
          unfold wpOp
          simp only [ho]
          rw [frame49]
          simp only [e39]
          rw [if_pos (by rfl)]
          left
          go_simp
          refine metK (hK.out ((.string p)) _ (Below.refl _ _) (fun d hd => by cases hd; exact rfl)) ?_
          simp [frame49, Act.put, *]
         ·obtain rfl := Option.some.inj ho
          have e39 : X 39 = _ := hI 39 (by kernel_rfl)
          have e40 : X 40 = _ := hI 40 (by kernel_rfl)
          have e44 : X 44 = _ := hI 44 (by kernel_rfl)
          have hx : Ext W w' := HEJ.out.trans hph
          unfold wpOp
          simp only [ho]
          rw [frame49]
          simp only [e39]
          rw [if_pos (by rfl)]
          left
          go_simp
          refine (HCOP.out w' hx).mono ?_
          rintro e w9 ⟨u9, rfl, ho9, E9⟩
          obtain ⟨ua, uc2, rfl⟩ := owns_shape ho9
          refine metK (hK.out (.slice ua C.length uc2) w9 E9 (fun d hd => by cases hd; exact ⟨ua, uc2, rfl, Sl.of_own' (enc := encI) (fun _ => rfl) ho9⟩)) ?_
          simp [frame49, Act.put, *]
         ·obtain rfl := Option.some.inj ho
          have e1 : X 1 = (.int .i64 id) := hF 1 (by kernel_rfl)
          have e39 : X 39 = _ := hI 39 (by kernel_rfl)
          unfold wpOp
          simp only [ho]
          rw [frame49]
          simp only [e39]
          rw [if_pos (by rfl)]
          left
          go_simp
          refine metK (hK.out ((.int .i64 id)) _ (Below.refl _ _) (fun d hd => by cases hd; exact rfl)) ?_
          simp [frame49, Act.put, *]
         ·obtain rfl := Option.some.inj ho
          have e39 : X 39 = _ := hI 39 (by kernel_rfl)
          have y45 := hI 45 (by kernel_rfl)
          have e46 : X 46 = _ := hI 46 (by kernel_rfl)
          obtain ⟨ua, uc2, e45, hi9⟩ := y45
          rw [e45] at hi9
          unfold wpOp
          simp only [ho]
          rw [frame49]
          simp only [e39]
          rw [if_pos (by rfl)]
          left
          go_simp
          refine (has_any C id _ w' hi9).mono ?_
          rintro e w9 ⟨rfl, rfl⟩
          rw [HBC.out]
          refine metK (hK.out (.bool true) w' (Below.refl _ _) (fun d hd => by cases hd; exact rfl)) ?_
          simp [frame49, Act.put, *]
         ·obtain rfl := Option.some.inj ho
          have e39 : X 39 = _ := hI 39 (by kernel_rfl)
          have e47 : X 47 = _ := hI 47 (by kernel_rfl)
          unfold wpOp
          simp only [ho]
          rw [if_pos (by rfl)]
          left
          rw [frame49]
          go_simp
          refine metK (hK.out ((.bool true)) _ (Below.refl _ _) (fun d hd => by cases hd; exact rfl)) ?_
          simp [frame49, Act.put, *]
        ·intro X w' hph hI
         have e31 : X 31 = _ := hI 31 (by kernel_rfl)
         have e32 : X 32 = _ := hI 32 (by kernel_rfl)
         have e33 : X 33 = _ := hI 33 (by kernel_rfl)
         have e34 : X 34 = _ := hI 34 (by kernel_rfl)
         have e35 : X 35 = _ := hI 35 (by kernel_rfl)
         have y36 := hI 36 (by kernel_rfl)
         have e37 : X 37 = _ := hI 37 (by kernel_rfl)
         have e38 : X 38 = _ := hI 38 (by kernel_rfl)
         have e39 : X 39 = _ := hI 39 (by kernel_rfl)
         have e40 : X 40 = _ := hI 40 (by kernel_rfl)
         have e41 : X 41 = _ := hI 41 (by kernel_rfl)
         have e42 : X 42 = _ := hI 42 (by kernel_rfl)
         have e43 : X 43 = _ := hI 43 (by kernel_rfl)
         have e44 : X 44 = _ := hI 44 (by kernel_rfl)
         have y45 := hI 45 (by kernel_rfl)
         have e46 : X 46 = _ := hI 46 (by kernel_rfl)
         have e47 : X 47 = _ := hI 47 (by kernel_rfl)
         have e48 : X 48 = _ := hI 48 (by kernel_rfl)
         clear hI
         simp only [overF, List.foldl_cons, List.foldl_nil, List.setIfInBounds_toArray, List.set_cons_succ, List.set_cons_zero, e31, e32, e33, e34, e35, e37, e38, e39, e40, e41, e42, e43, e44, e46, e47, e48]
         have hx9 : Ext wj w' := hph
         have HZ := hide (HX.out.trans (HEJ.out.trans hx9))
         clear hph hx9 e31 e32 e33 e34 e35 e37 e38 e39 e40 e41 e42 e43 e44 e46 e47 e48 y36 y45
         generalize w' = W9 at *
         go_wp2
         go_ret
         exact ⟨ret_bool HYES.out.symm, HZ.out⟩
       | false =>
        rw [hb2] at hsn
        have HNO := hide hsn
        have HBC := hide hb2
        clear hyes hb2 hsn
        go_upto_region 9 with (fail)
        refine wp_region_ro 49 [31, 32, 33, 34, 35, 36, 37, 38, 39, 40, 41, 42, 43, 44, 45, 46, 47, 48] (fun w' => Ext wj w') (fun (t : Nat) (wI : World) (v : Value) => match t with | 31 => v = (.agg (encC c).toArray) | 32 => v = (.slice (some ⟨gy, 0, none⟩) Y.length uc) | 33 => v = (.int .i64 (k : Int)) | 34 => v = (.pointer (some ⟨gy, k, none⟩)) | 35 => v = (.string p) | 36 => ∃ a cc, v = .slice a A.length cc ∧ Ints wI v A | 37 => v = (.int .i64 id) | 38 => v = (.bool false) | 39 => v = (.bool false) | 40 => v = (.agg (encC c).toArray) | 41 => v = (.slice (some ⟨gy, 0, none⟩) Y.length uc) | 42 => v = (.int .i64 (k : Int)) | 43 => v = (.pointer (some ⟨gy, k, none⟩)) | 44 => v = (.string p) | 45 => ∃ a cc, v = .slice a C.length cc ∧ Ints wI v C | 46 => v = (.int .i64 id) | 47 => v = (.bool false) | 48 => v = (.bool false) | _ => True) (by kernel_rfl) rfl (by kernel_rfl) (by kernel_rfl) (by kernel_rfl) ?_ ?_ ?_ ?_ ?_
        ·intro t w' w'' v hR hv
         split at hv <;> first | exact hv | (obtain ⟨a, cc, h1, h2⟩ := hv; exact ⟨a, cc, h1, h2.ext hR⟩)
        ·intro w' w'' h e
         exact Ext.trans (show Ext _ w' from h) e
        ·exact (Below.refl _ _).drew
        ·intro i o ho X w' hph hI hF K hK
         have hin : i < 18 := (Array.getElem?_eq_some_iff.1 ho).1
         have hi : i = 0 ∨ i = 1 ∨ i = 2 ∨ i = 3 ∨ i = 4 ∨ i = 5 ∨ i = 6 ∨ i = 7 ∨ i = 8 ∨ i = 9 ∨ i = 10 ∨ i = 11 ∨ i = 12 ∨ i = 13 ∨ i = 14 ∨ i = 15 ∨ i = 16 ∨ i = 17 := by omega
         rcases hi with rfl | rfl | rfl | rfl | rfl | rfl | rfl | rfl | rfl | rfl | rfl | rfl | rfl | rfl | rfl | rfl | rfl | rfl
         ·obtain rfl := Option.some.inj ho
          have e2 : X 2 = (.pointer (some ⟨b2, 0, none⟩)) := hF 2 (by kernel_rfl)
          have hx : Ext W w' := HEJ.out.trans hph
          unfold wpOp
          simp only [ho]
          rw [if_pos (by rfl)]
          left
          rw [frame49]
          refine wp_load_mid 30 (.tmp 2) rfl b2 0 e2 (encC c) cd (BoxC.range (HBX.out w' hx)) hcd1 hcd2 Tryz.confSize (metK (hK.out (.agg (encC c).toArray) _ (Below.refl _ _) (fun d hd => by cases hd; exact rfl)) ?_)
          simp [frame49, Act.put, *]
         ·obtain rfl := Option.some.inj ho
          have e7 : X 7 = (.slice (some ⟨gy, 0, none⟩) Y.length uc) := hF 7 (by kernel_rfl)
          unfold wpOp
          simp only [ho]
          rw [if_pos (by rfl)]
          left
          rw [frame49]
          go_simp
          refine metK (hK.out ((.slice (some ⟨gy, 0, none⟩) Y.length uc)) _ (Below.refl _ _) (fun d hd => by cases hd; exact rfl)) ?_
          simp [frame49, Act.put, *]
         ·obtain rfl := Option.some.inj ho
          have e8 : X 8 = (.int .i64 (k : Int)) := hF 8 (by kernel_rfl)
          unfold wpOp
          simp only [ho]
          rw [if_pos (by rfl)]
          left
          rw [frame49]
          go_simp
          refine metK (hK.out ((.int .i64 (k : Int))) _ (Below.refl _ _) (fun d hd => by cases hd; exact rfl)) ?_
          simp [frame49, Act.put, *]
         ·obtain rfl := Option.some.inj ho
          have e32 : X 32 = _ := hI 32 (by kernel_rfl)
          have e33 : X 33 = _ := hI 33 (by kernel_rfl)
          unfold wpOp
          simp only [ho]
          rw [if_pos (by rfl)]
          left
          rw [frame49]
          go_simp
          refine metK (hK.out ((.pointer (some ⟨gy, k, none⟩))) _ (Below.refl _ _) (fun d hd => by cases hd; exact rfl)) ?_
          simp [frame49, Act.put, *]
         ·obtain rfl := Option.some.inj ho
          have e34 : X 34 = _ := hI 34 (by kernel_rfl)
          have q := HCY.out w' hph
          unfold wpOp
          simp only [ho]
          rw [if_pos (by rfl)]
          left
          rw [frame49]
          go_simp
          refine metK (hK.out ((.string p)) _ (Below.refl _ _) (fun d hd => by cases hd; exact rfl)) ?_
          simp [frame49, Act.put, *]
         ·obtain rfl := Option.some.inj ho
          have e31 : X 31 = _ := hI 31 (by kernel_rfl)
          have e35 : X 35 = _ := hI 35 (by kernel_rfl)
          have hx : Ext W w' := HEJ.out.trans hph
          unfold wpOp
          simp only [ho]
          rw [if_pos (by rfl)]
          left
          rw [frame49]
          go_simp
          refine (HSER.out w' hx).mono ?_
          rintro e w9 ⟨u9, rfl, ho9, E9⟩
          obtain ⟨ua, uc2, rfl⟩ := owns_shape ho9
          refine metK (hK.out (.slice ua A.length uc2) w9 E9 (fun d hd => by cases hd; exact ⟨ua, uc2, rfl, Sl.of_own' (enc := encI) (fun _ => rfl) ho9⟩)) ?_
          simp [frame49, Act.put, *]
         ·obtain rfl := Option.some.inj ho
          have e1 : X 1 = (.int .i64 id) := hF 1 (by kernel_rfl)
          unfold wpOp
          simp only [ho]
          rw [if_pos (by rfl)]
          left
          rw [frame49]
          go_simp
          refine metK (hK.out ((.int .i64 id)) _ (Below.refl _ _) (fun d hd => by cases hd; exact rfl)) ?_
          simp [frame49, Act.put, *]
         ·obtain rfl := Option.some.inj ho
          have y36 := hI 36 (by kernel_rfl)
          have e37 : X 37 = _ := hI 37 (by kernel_rfl)
          obtain ⟨ua, uc2, e36, hi9⟩ := y36
          rw [e36] at hi9
          unfold wpOp
          simp only [ho]
          rw [if_pos (by rfl)]
          left
          rw [frame49]
          go_simp
          refine (has_any A id _ w' hi9).mono ?_
          rintro e w9 ⟨rfl, rfl⟩
          rw [HBA.out]
          refine metK (hK.out (.bool false) w' (Below.refl _ _) (fun d hd => by cases hd; exact rfl)) ?_
          simp [frame49, Act.put, *]
         ·obtain rfl := Option.some.inj ho
          have e38 : X 38 = _ := hI 38 (by kernel_rfl)
          unfold wpOp
          simp only [ho]
          rw [if_pos (by rfl)]
          left
          rw [frame49]
          go_simp
          refine metK (hK.out ((.bool false)) _ (Below.refl _ _) (fun d hd => by cases hd; exact rfl)) ?_
          simp [frame49, Act.put, *]
         ·obtain rfl := Option.some.inj ho
          have e2 : X 2 = (.pointer (some ⟨b2, 0, none⟩)) := hF 2 (by kernel_rfl)
          have e39 : X 39 = _ := hI 39 (by kernel_rfl)
          have hx : Ext W w' := HEJ.out.trans hph
          unfold wpOp
          simp only [ho]
          rw [frame49]
          simp only [e39]
          rw [if_pos (by rfl)]
          left
          refine wp_load_mid 30 (.tmp 2) rfl b2 0 e2 (encC c) cd (BoxC.range (HBX.out w' hx)) hcd1 hcd2 Tryz.confSize (metK (hK.out (.agg (encC c).toArray) _ (Below.refl _ _) (fun d hd => by cases hd; exact rfl)) ?_)
          simp [frame49, Act.put, *]
         ·obtain rfl := Option.some.inj ho
          have e7 : X 7 = (.slice (some ⟨gy, 0, none⟩) Y.length uc) := hF 7 (by kernel_rfl)
          have e39 : X 39 = _ := hI 39 (by kernel_rfl)
          unfold wpOp
          simp only [ho]
          rw [frame49]
          simp only [e39]
          rw [if_pos (by rfl)]
          left
          go_simp
          refine metK (hK.out ((.slice (some ⟨gy, 0, none⟩) Y.length uc)) _ (Below.refl _ _) (fun d hd => by cases hd; exact rfl)) ?_
          simp [frame49, Act.put, *]
         ·obtain rfl := Option.some.inj ho
          have e8 : X 8 = (.int .i64 (k : Int)) := hF 8 (by kernel_rfl)
          have e39 : X 39 = _ := hI 39 (by kernel_rfl)
          unfold wpOp
          simp only [ho]
          rw [frame49]
          simp only [e39]
          rw [if_pos (by rfl)]
          left
          go_simp
          refine metK (hK.out ((.int .i64 (k : Int))) _ (Below.refl _ _) (fun d hd => by cases hd; exact rfl)) ?_
          simp [frame49, Act.put, *]
         ·obtain rfl := Option.some.inj ho
          have e39 : X 39 = _ := hI 39 (by kernel_rfl)
          have e41 : X 41 = _ := hI 41 (by kernel_rfl)
          have e42 : X 42 = _ := hI 42 (by kernel_rfl)
          unfold wpOp
          simp only [ho]
          rw [frame49]
          simp only [e39]
          rw [if_pos (by rfl)]
          left
          go_simp
          refine metK (hK.out ((.pointer (some ⟨gy, k, none⟩))) _ (Below.refl _ _) (fun d hd => by cases hd; exact rfl)) ?_
          simp [frame49, Act.put, *]
         ·obtain rfl := Option.some.inj ho
          have e39 : X 39 = _ := hI 39 (by kernel_rfl)
          have e43 : X 43 = _ := hI 43 (by kernel_rfl)
          have q := HCY.out w' hph
          unfold wpOp
          simp only [ho]
          rw [frame49]
          simp only [e39]
          rw [if_pos (by rfl)]
          left
          go_simp
          refine metK (hK.out ((.string p)) _ (Below.refl _ _) (fun d hd => by cases hd; exact rfl)) ?_
          simp [frame49, Act.put, *]
         ·obtain rfl := Option.some.inj ho
          have e39 : X 39 = _ := hI 39 (by kernel_rfl)
          have e40 : X 40 = _ := hI 40 (by kernel_rfl)
          have e44 : X 44 = _ := hI 44 (by kernel_rfl)
          have hx : Ext W w' := HEJ.out.trans hph
          unfold wpOp
          simp only [ho]
          rw [frame49]
          simp only [e39]
          rw [if_pos (by rfl)]
          left
          go_simp
          refine (HCOP.out w' hx).mono ?_
          rintro e w9 ⟨u9, rfl, ho9, E9⟩
          obtain ⟨ua, uc2, rfl⟩ := owns_shape ho9
          refine metK (hK.out (.slice ua C.length uc2) w9 E9 (fun d hd => by cases hd; exact ⟨ua, uc2, rfl, Sl.of_own' (enc := encI) (fun _ => rfl) ho9⟩)) ?_
          simp [frame49, Act.put, *]
         ·obtain rfl := Option.some.inj ho
          have e1 : X 1 = (.int .i64 id) := hF 1 (by kernel_rfl)
          have e39 : X 39 = _ := hI 39 (by kernel_rfl)
          unfold wpOp
          simp only [ho]
          rw [frame49]
          simp only [e39]
          rw [if_pos (by rfl)]
          left
          go_simp
          refine metK (hK.out ((.int .i64 id)) _ (Below.refl _ _) (fun d hd => by cases hd; exact rfl)) ?_
          simp [frame49, Act.put, *]
         ·obtain rfl := Option.some.inj ho
          have e39 : X 39 = _ := hI 39 (by kernel_rfl)
          have y45 := hI 45 (by kernel_rfl)
          have e46 : X 46 = _ := hI 46 (by kernel_rfl)
          obtain ⟨ua, uc2, e45, hi9⟩ := y45
          rw [e45] at hi9
          unfold wpOp
          simp only [ho]
          rw [frame49]
          simp only [e39]
          rw [if_pos (by rfl)]
          left
          go_simp
          refine (has_any C id _ w' hi9).mono ?_
          rintro e w9 ⟨rfl, rfl⟩
          rw [HBC.out]
          refine metK (hK.out (.bool false) w' (Below.refl _ _) (fun d hd => by cases hd; exact rfl)) ?_
          simp [frame49, Act.put, *]
         ·obtain rfl := Option.some.inj ho
          have e39 : X 39 = _ := hI 39 (by kernel_rfl)
          have e47 : X 47 = _ := hI 47 (by kernel_rfl)
          unfold wpOp
          simp only [ho]
          rw [if_pos (by rfl)]
          left
          rw [frame49]
          go_simp
          refine metK (hK.out ((.bool false)) _ (Below.refl _ _) (fun d hd => by cases hd; exact rfl)) ?_
          simp [frame49, Act.put, *]
        ·intro X w' hph hI
         have e31 : X 31 = _ := hI 31 (by kernel_rfl)
         have e32 : X 32 = _ := hI 32 (by kernel_rfl)
         have e33 : X 33 = _ := hI 33 (by kernel_rfl)
         have e34 : X 34 = _ := hI 34 (by kernel_rfl)
         have e35 : X 35 = _ := hI 35 (by kernel_rfl)
         have y36 := hI 36 (by kernel_rfl)
         have e37 : X 37 = _ := hI 37 (by kernel_rfl)
         have e38 : X 38 = _ := hI 38 (by kernel_rfl)
         have e39 : X 39 = _ := hI 39 (by kernel_rfl)
         have e40 : X 40 = _ := hI 40 (by kernel_rfl)
         have e41 : X 41 = _ := hI 41 (by kernel_rfl)
         have e42 : X 42 = _ := hI 42 (by kernel_rfl)
         have e43 : X 43 = _ := hI 43 (by kernel_rfl)
         have e44 : X 44 = _ := hI 44 (by kernel_rfl)
         have y45 := hI 45 (by kernel_rfl)
         have e46 : X 46 = _ := hI 46 (by kernel_rfl)
         have e47 : X 47 = _ := hI 47 (by kernel_rfl)
         have e48 : X 48 = _ := hI 48 (by kernel_rfl)
         clear hI
         simp only [overF, List.foldl_cons, List.foldl_nil, List.setIfInBounds_toArray, List.set_cons_succ, List.set_cons_zero, e31, e32, e33, e34, e35, e37, e38, e39, e40, e41, e42, e43, e44, e46, e47, e48]
         have hx9 : Ext wj w' := hph
         have HE9 := hide (HEJ0.out.trans hx9)
         clear hph hx9 e31 e32 e33 e34 e35 e37 e38 e39 e40 e41 e42 e43 e44 e46 e47 e48 y36 y45
         generalize w' = W9 at *
         go_wp2
         go_roundw
         case rel => exact ⟨k + 1, hltk, by go_num, HNO.out, HE9.out⟩
         case measure => simp [intOf] <;> omega
     ·obtain rfl : k = Y.length := by omega
      have hltkz : ¬ (Y.length : Int) < Y.length := by omega
      rw [List.take_length] at hno
      have HNO := hide hno
      clear hno
      go_wp2
      go_roundw
      case rel => exact ⟨i + 1, hlt, by go_num, by rw [HSI.out, HYE.out, HNO.out], HEJ.out⟩
      case measure => simp [intOf] <;> omega
  ·obtain rfl : i = KD.length := by omega
   have hltz : ¬ (KD.length : Int) < KD.length := by omega
   rw [List.take_length] at hno
   have HNO := hide (HREF.out.trans hno)
   have HZ := hide (HX.out.trans HEI.out)
   clear hno
   go_wp2
   go_ret
   exact ⟨ret_bool HNO.out.symm, HZ.out⟩
end Go.Proofs.YtceaeiaoanhlnaaGreatDoor
