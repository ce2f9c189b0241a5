/- Merged texts (GkK, GkL). -/
import Derived.Sort.MapsRangeIn
import Derived.Laws.EntriesVeiled
import Derived.Test.YtceaeiaoanhlnaaGreatDoorGkJe
namespace Go.Proofs.YtceaeiaoanhlnaaGreatDoor
open Go.ChangeShapes Go.WideShapes Go.ChangeAt Go.RowKit Go.Lib Go.Shelf Go.Maps
theorem inj_ti {r : RuleD} {n : Int} (h : rchk r n = 0) : 0 ≤ r.ti ∧ r.ti ≤ 10000 := by
 unfold rchk at h
 split at h
 ·rename_i hm
  exact absurd h hm
 ·split at h
  ·rename_i hm
   exact absurd h hm
  ·split at h
   ·cases h
   ·split at h
    ·cases h
    ·rename_i hi
     unfold injB at hi
     simp only [Bool.or_eq_true, not_or] at hi
     have := hi.2
     unfold outB at this
     simp only [Bool.or_eq_true, decide_eq_true_eq, not_or] at this
     omega
def unS : Lit → ByteArray
 | .string l => ⟨l.toArray⟩
 | _ => ⟨#[]⟩
theorem unS_lit (x : ByteArray) : unS (litS x) = x := by
 unfold unS litS
 cases x
 simp
/-- a map of texts has no more entries than there are texts that it may have -/
theorem map_bound {w : World} {b n : Nat} {f : ByteArray → Option Value} (h : MapV litS w 9 b n f) (U : List ByteArray) (hU : ∀ x, (f x).isSome = true → x ∈ U) : MapV litS w 9 b U.length f := by
 obtain ⟨D, ⟨es, clock, hb, F, hs, rfl⟩, h2, h3⟩ := h
 refine ⟨_, ⟨es, clock, hb, F, ?_, rfl⟩, h2, h3⟩
 have hkey : ∀ e ∈ es.toList, ∃ x : ByteArray, (WideElems.rg Tryz.prog 9 heldR e).1 = litS x ∧ x ∈ U := by
  intro e he
  obtain ⟨y, hy⟩ := F.reads e he
  have hk := WideElems.rd_key hy
  obtain ⟨s, hks⟩ := Maps.keyOf_string_inv Tryz.underlying9 hk
  have hl : y.1 = litS s := by
   have hk2 := hk
   rw [hks, keyOf_string Tryz.underlying9] at hk2
   simp only [mapKey, Tryz.underlying9] at hk2
   split at hk2
   ·exact (Option.some.inj hk2).symm
   ·cases hk2
  have hrg : (WideElems.rg Tryz.prog 9 heldR e).1 = litS s := by rw [WideElems.rg_of hy, hl]
  refine ⟨s, hrg, hU s ?_⟩
  rw [← h3 s]
  refine List.any_eq_true.2 ⟨WideElems.rg Tryz.prog 9 heldR e, Go.mem_sorted.2 (List.mem_map.2 ⟨e, he, rfl⟩), ?_⟩
  rw [hrg]
  exact WideAt.sameKey_self (keyedS.key (by rw [← hl]; exact hk))
 have hnd : (es.toList.map fun e => unS (WideElems.rg Tryz.prog 9 heldR e).1).Nodup := by
  have hap := Maps.fit_apart keyedS F
  rw [List.pairwise_map] at hap
  unfold List.Nodup
  rw [List.pairwise_map]
  refine List.Pairwise.imp_of_mem (fun {a b} ha hb hne he => hne ?_) hap
  obtain ⟨x, hx, -⟩ := hkey a ha
  obtain ⟨y, hy, -⟩ := hkey b hb
  rw [hx, hy, unS_lit, unS_lit] at he
  rw [hx, hy, he]
 have := nodup_lenG _ U hnd fun x hx => by
  obtain ⟨e, he, rfl⟩ := List.mem_map.1 hx
  obtain ⟨x, hx, hu⟩ := hkey e he
  rw [hx, unS_lit]
  exact hu
 simpa using this
/-- the phases of a store into a map of texts, of two numbers that are laid -/
def PhTm (W : World) (q n : Nat) (f : ByteArray → Option Value) (L : List Int) : List Value → World → Prop
 | [], w' => Ext W w'
 | [v], w' => Ext W w' ∧ Ints w' v L
 | _ :: _ :: _, w' => ∃ w8 w9, Ext W w8 ∧ w8.mapTurned w9 q ∧ MapV litS w9 9 q n f ∧ Ext w9 w'
theorem PhTm.keep {W : World} {q n : Nat} {f : ByteArray → Option Value} {L : List Int} : ∀ {vs : List Value} {w' w'' : World}, PhTm W q n f L vs w' → Ext w' w'' → PhTm W q n f L vs w''
 | [], _, _, h, e => Ext.trans h e
 | [_], _, _, ⟨h1, h2⟩, e => ⟨Ext.trans h1 e, h2.ext e⟩
 | _ :: _ :: _, _, _, ⟨w8, w9, h1, h2, h3, h4⟩, e => ⟨w8, w9, h1, h2, h3, h4.trans e⟩
theorem PhTm.x {W : World} {q n : Nat} {f : ByteArray → Option Value} {L : List Int} {vs : List Value} {w' : World} (h : PhTm W q n f L vs w') (hl : vs.length ≤ 1) : Ext W w' := by
 rcases vs with _ | ⟨v, _ | ⟨u, vs⟩⟩
 ·exact h
 ·exact h.1
 ·simp at hl
/-! ## bounds -/
theorem foldl_bd {α : Type} {g : Int → α → Int} (hg : ∀ n x, 0 ≤ n ∧ n ≤ mostN → 0 ≤ g n x ∧ g n x ≤ mostN) : ∀ (l : List α) (n : Int), 0 ≤ n ∧ n ≤ mostN → 0 ≤ l.foldl g n ∧ l.foldl g n ≤ mostN
 | [], _, h => h
 | x :: l, n, h => foldl_bd hg l _ (hg n x h)
theorem sumM_bd {a b : Int} (ha : 0 ≤ a) (hb : 0 ≤ b) : 0 ≤ sumM a b ∧ sumM a b ≤ mostN := by unfold sumM mostN; omega
theorem svcT_bd {c : ConfD} (h : chkC c = 0) (f : ByteArray → Int) (hf : ∀ p, 0 ≤ f p) (id : Int) : 0 ≤ svcT c f id ∧ svcT c f id ≤ mostN := by
 have h1 := (chk_num h).2.2.2.1
 have h2 : 0 ≤ (findS c.S id).work ∧ (findS c.S id).work ≤ 100 := by
  cases ht : thereB c.S id with
  | true => have := (chk_svc h (findS_there ht).1).2.2.1; omega
  | false => rw [findS_not ht]; decide
 exact foldl_bd (fun n x hn => sumM_bd hn.1 (hf x)) _ _ ⟨by omega, by unfold mostN; omega⟩
theorem tick_bd {c : ConfD} (h : chkC c = 0) (hf : ConfFit c) (p : ByteArray) : 0 ≤ tickD c.R p ∧ tickD c.R p ≤ mostN := by
 have key : ∀ (l : List RuleD) (n : Int), (∀ r ∈ l, r ∈ c.R) → 0 ≤ n ∧ n ≤ 10000 → 0 ≤ l.foldl (fun n r => if 0 < r.de then max n r.ti else n) n ∧ l.foldl (fun n r => if 0 < r.de then max n r.ti else n) n ≤ 10000 := by
  intro l
  induction l with
  | nil => intro n _ h; exact h
  | cons r l ih =>
   intro n hl hn
   refine ih _ (fun x hx => hl x (List.mem_cons_of_mem _ hx)) ?_
   have hr := chk_rule h (hl r (List.mem_cons_self ..))
   have := inj_ti hr
   show (0 : Int) ≤ (if 0 < r.de then max n r.ti else n) ∧ (if 0 < r.de then max n r.ti else n) ≤ 10000
   split <;> omega
 have := key (onR c.R p) 0 (fun r hr => targ_mem hr) (by omega)
 unfold tickD
 refine ⟨this.1, ?_⟩
 unfold mostN
 omega
theorem timeF_bd {c : ConfD} (h : chkC c = 0) (hf : ConfFit c) : ∀ (f : Nat) (p : ByteArray), 0 ≤ timeF c f p ∧ timeF c f p ≤ mostN
 | 0, _ => (by decide : (0 : Int) ≤ 0 ∧ (0 : Int) ≤ mostN)
 | f + 1, p => by
  have h1 := tick_bd h hf p
  have hb := fun id => svcT_bd h (timeF c f) (fun q => (timeF_bd h hf f q).1) id
  have h2 := foldl_bd (g := fun n id => max n (svcT c (timeF c f) id)) (fun n x hn => by have := hb x; omega) (targS c.R p) 0 (by decide)
  have h3 := foldl_bd (g := fun n id => sumM n (svcT c (timeF c f) id)) (fun n x hn => sumM_bd hn.1 (hb x).1) (targC c.R p) _ h2
  exact sumM_bd h3.1 h1.1
theorem timeF_eq (c : ConfD) {f g : Nat} {p : ByteArray} (hf : Deep c f p) (hg : Deep c g p) : timeF c f p = timeF c g p := by
 rcases Nat.le_total f g with h | h
 ·exact (timeF_stay c p h hf).1.symm
 ·exact (timeF_stay c p h hg).1
/-- timeOf's own: the boxes of its functions and of its map, in blocks from B on; the map's times are right -/
structure TM (B : Nat) (w : World) (b0 ba bt bo bm : Nat) (c : ConfD) (U : List ByteArray) : Prop where
 ha : B ≤ ba
 ht : B ≤ bt
 ho : B ≤ bo
 hm : B ≤ bm
 hB : B ≤ w.heap.size
 fa : w.heap[ba]? = some (.cells #[.func (.func 72) #[] #[.pointer (some ⟨bt, 0, none⟩), .pointer (some ⟨b0, 0, none⟩), .pointer (some ⟨bo, 0, none⟩)]] 119 (0, 0))
 tb : w.heap[bt]? = some (.cells #[.map (some bm)] 118 (0, 0))
 fo : w.heap[bo]? = some (.cells #[.func (.func 71) #[] #[.pointer (some ⟨b0, 0, none⟩), .pointer (some ⟨ba, 0, none⟩)]] 120 (0, 0))
 map : ∃ F : ByteArray → Option Int, MapV litS w 9 bm U.length (fun q => (F q).map (Value.int .i64)) ∧ ∀ q z, F q = some z → q ∈ U ∧ ∃ g, Deep c g q ∧ z = timeF c g q
theorem TM.ofM {B : Nat} {w : World} {b0 ba bt bo bm : Nat} {c : ConfD} {U : List ByteArray} (h : TM B w b0 ba bt bo bm c U) : OfM w (fun q => q = bm) := by
 obtain ⟨F, hm, -⟩ := h.map
 exact hm.ofM
theorem TM.ext {B : Nat} {w w' : World} {b0 ba bt bo bm : Nat} {c : ConfD} {U : List ByteArray} (h : TM B w b0 ba bt bo bm c U) (e : Ext w w') : TM B w' b0 ba bt bo bm c U := by
 obtain ⟨F, hm, hF⟩ := h.map
 exact ⟨h.ha, h.ht, h.ho, h.hm, Nat.le_trans h.hB e.size, (e.block ba (Array.getElem?_eq_some_iff.1 h.fa).1).trans h.fa, (e.block bt (Array.getElem?_eq_some_iff.1 h.tb).1).trans h.tb, (e.block bo (Array.getElem?_eq_some_iff.1 h.fo).1).trans h.fo, F, hm.ext e, hF⟩
/-- one time more -/
theorem TM.put {B : Nat} {w w8 w9 w' : World} {b0 ba bt bo bm : Nat} {c : ConfD} {U : List ByteArray} (h : TM B w b0 ba bt bo bm c U) {p : ByteArray} (hp : p ∈ U) {g : Nat} (hd : Deep c g p) {F : ByteArray → Option Int} (hF : ∀ q z, F q = some z → q ∈ U ∧ ∃ g, Deep c g q ∧ z = timeF c g q) {n : Nat}
  (E8 : Ext w w8) (ht : w8.mapTurned w9 bm) (h9 : MapV litS w9 9 bm n (fun q => if q = p then some (.int .i64 (timeF c g p)) else (F q).map (Value.int .i64))) (E9 : Ext w9 w') : TM B w' b0 ba bt bo bm c U := by
 have h8 := h.ext E8
 have hX := h8.ofM
 have hT := turned_keeps ht
 have hF2 : ∀ q z, (if q = p then some (timeF c g p) else F q) = some z → q ∈ U ∧ ∃ g, Deep c g q ∧ z = timeF c g q := fun q z hz => by
  by_cases e : q = p
  ·rw [if_pos e] at hz
   cases hz
   subst e
   exact ⟨hp, g, hd, rfl⟩
  ·rw [if_neg e] at hz
   exact hF q z hz
 have h9' : MapV litS w9 9 bm n (fun q => (if q = p then some (timeF c g p) else F q).map (Value.int .i64)) := h9.congr fun q => by by_cases e : q = p <;> simp [e]
 have hb := map_bound h9' U fun q hq => by
  cases hz : (if q = p then some (timeF c g p) else F q) with
  | none => rw [hz] at hq; cases hq
  | some z => exact (hF2 q z hz).1
 refine TM.ext ⟨h8.ha, h8.ht, h8.ho, h8.hm, Nat.le_trans h8.hB hT.size, cells_keepM hT hX h8.fa, cells_keepM hT hX h8.tb, cells_keepM hT hX h8.fo, _, hb, hF2⟩ E9
end Go.Proofs.YtceaeiaoanhlnaaGreatDoor
namespace Go.Proofs.YtceaeiaoanhlnaaGreatDoor
open Go.ChangeShapes Go.WideShapes Go.ChangeAt Go.RowKit Go.Lib Go.Shelf Go.Maps
/-- where timeOf's functions are called -/
structure TCx (B : Nat) (W : World) (b0 : Nat) (c : ConfD) (U : List ByteArray) : Prop where
 g : GC W c
 hW : W.heap.size ≤ B
 box : W.heap[b0]? = some (.cells (encC c).toArray 30 (0, 0))
 u : ∀ k ∈ allK c, k ∈ U
 sz : ∀ p ∈ U, SzB p
 len : U.length ≤ 2000
theorem TCx.conf {B : Nat} {W : World} {b0 : Nat} {c : ConfD} {U : List ByteArray} (h : TCx B W b0 c U) {X : World} (hX : Below B W X) : X.heap[b0]? = some (.cells (encC c).toArray 30 (0, 0)) := ((hX.mono h.hW).block b0 (Array.getElem?_eq_some_iff.1 h.box).1).trans h.box
theorem TCx.gc {B : Nat} {W : World} {b0 : Nat} {c : ConfD} {U : List ByteArray} (h : TCx B W b0 c U) {X : World} (hX : Below B W X) : GC X c := h.g.ext (hX.mono h.hW)
def AtOk (B : Nat) (W : World) (b0 ba bt bo bm : Nat) (c : ConfD) (U : List ByteArray) (f : Nat) : Prop :=
 ∀ (p : ByteArray) (w : World), TM B w b0 ba bt bo bm c U → Below B W w → p ∈ U → Deep c f p →
  Calls Tryz.prog 72 #[.string p, .pointer (some ⟨bt, 0, none⟩), .pointer (some ⟨b0, 0, none⟩), .pointer (some ⟨bo, 0, none⟩)] w fun e w' => e = .returned (.int .i64 (timeF c f p)) ∧ TM B w' b0 ba bt bo bm c U ∧ Keeps (fun q => q = bm) w w'
theorem TM.below {B : Nat} {W w w' : World} {b0 ba bt bo bm : Nat} {c : ConfD} {U : List ByteArray} (h : TM B w b0 ba bt bo bm c U) (hb : Below B W w) (k : Keeps (fun q => q = bm) w w') : Below B W w' := hb.trans (k.below h.hB fun q hq => by rw [hq]; exact h.hm)
set_option maxRecDepth 100000 in
set_option maxHeartbeats 16000000 in
theorem of_any {B : Nat} {W : World} {b0 ba bt bo bm : Nat} {c : ConfD} {U : List ByteArray} {f : Nat} (cx : TCx B W b0 c U) (ih : AtOk B W b0 ba bt bo bm c U f) (id : Int) (w : World) (h : TM B w b0 ba bt bo bm c U) (hb : Below B W w) (hd : ∀ k ∈ (findS c.S id).K, Deep c f k) :
  Calls Tryz.prog 71 #[.int .i64 id, .pointer (some ⟨b0, 0, none⟩), .pointer (some ⟨ba, 0, none⟩)] w fun e w' => e = .returned (.int .i64 (svcT c (timeF c f) id)) ∧ TM B w' b0 ba bt bo bm c U ∧ Keeps (fun q => q = bm) w w' := by
 obtain ⟨cd, hcd1, hcd2⟩ := Tryz.confDesc
 have HCX := hide cx
 have HIH := hide ih
 have HTM := hide h
 have HB := hide hb
 have hfi := findG_any c id w (cx.gc hb)
 have hst := cx.g.find id
 have hku : ∀ k ∈ (findS c.S id).K, k ∈ U := fun k hk => cx.u k (List.mem_flatMap.2 ⟨_, (findS_mem hk).1, hk⟩)
 have hkl := find_kids cx.g.chk id
 have hho := (chk_num cx.g.chk).2.2.2.1
 have hwo : 0 ≤ (findS c.S id).work ∧ (findS c.S id).work ≤ 100 := by
  cases ht : thereB c.S id with
  | true => have := (chk_svc cx.g.chk (findS_there ht).1).2.2.1; omega
  | false => rw [findS_not ht]; decide
 have HTB := hide (fun q => timeF_bd cx.g.chk cx.g.fit f q)
 unfold svcT
 clear cx ih h hb
 generalize findS c.S id = s at *
 obtain ⟨sid, skv, K, swork, sslots, squeue, sbal, swarm⟩ := s
 obtain ⟨_, ka, kc, hkv⟩ := hst.shape
 simp only at hkv hst hku hkl hwo hd hfi ⊢
 subst hkv
 have HFI := hide hfi
 have HST := hide hst
 have HKU := hide hku
 have HKL := hide hkl
 have HD := hide hd
 clear hst hku hkl hd hfi
 obtain ⟨hop, hhop⟩ : ∃ z, c.hop = z := ⟨_, rfl⟩
 have HHOP := hide hhop
 rw [hhop] at hho ⊢
 clear hhop
 have w1 : IntKind.i64.wrap (2 * hop) = 2 * hop := by rw [IntKind.wrap_i64]; omega
 have w2 : IntKind.i64.wrap (2 * hop + swork) = 2 * hop + swork := by rw [IntKind.wrap_i64]; omega
 have w3 : IntKind.i64.wrap (2 * hop + swork + 2) = 2 * hop + swork + 2 := by rw [IntKind.wrap_i64]; omega
 have HBAS := hide (show 0 ≤ 2 * hop + swork + 2 ∧ 2 * hop + swork + 2 ≤ mostN from ⟨by omega, by unfold mostN; omega⟩)
 clear hho hwo
 go_enter Tryz.func71, Tryz.ntmps71
 go_upto_region 1 with (fail)
 refine wp_region_lit ?_
 refine wpList_load_mid rfl 30 (.tmp 1) rfl b0 0 rfl (encC c) cd (range_box (HCX.out.conf HB.out)) hcd1 hcd2 Tryz.confSize ?_
 refine wpList_plain rfl fun Kq hKq => ?_
 go_simp
 refine hKq _ _ ?_
 refine wpList_plain rfl fun Kq hKq => ?_
 go_simp
 refine HFI.out.mono ?_
 rintro e wf ⟨rfl, Ef⟩
 refine hKq _ _ ?_
 clear hKq Kq HFI
 refine wpList_box rfl 62 rfl rfl (.tmp 5) (.tmp 11) rfl (encV ⟨sid, .slice ka K.length kc, K, swork, sslots, squeue, sbal, swarm⟩) _ allocV rfl rfl rfl Tryz.svcSize (encV_ones rfl) fun W3 hb3 E3 => ?_
 refine wpList_nil ?_
 simp only [Act.put, List.setIfInBounds_toArray, List.set_cons_succ, List.set_cons_zero]
 obtain ⟨g, hg⟩ : ∃ g, wf.heap.size = g := ⟨_, rfl⟩
 rw [hg] at hb3 ⊢
 have hE := Ef.trans E3
 have HTM3 := hide (HTM.out.ext hE)
 have HB3 := hide (HB.out.trans (hE.mono HTM.out.hB))
 have HK3 := hide (show Keeps (fun q => q = bm) w W3 from Keeps.of_ext hE)
 have q15 : W3.cell? ⟨b0, 15, none⟩ = some (.int .i64 hop) := by rw [← HHOP.out]; exact cell_box (HCX.out.conf HB3.out) 15 _ rfl
 have y1 : W3.cell? ⟨g, 1, none⟩ = some (.slice ka K.length kc) := cell_box hb3 1 _ rfl
 have y2 : W3.cell? ⟨g, 2, none⟩ = some (.int .i64 swork) := cell_box hb3 2 _ rfl
 clear hE Ef E3 hb3 hg
 go_wp2_with fail
 clear q15 y1 y2
 obtain ⟨base, hbase⟩ : ∃ z, 2 * hop + swork + 2 = z := ⟨_, rfl⟩
 rw [hbase] at HBAS ⊢
 have HBE := hide hbase
 clear w1 w2 w3 hbase
 go_loopw [6, 22] (fun v6 v22 wr => ∃ (k : Nat) (n : Int), k ≤ K.length ∧ v22 = .int .i64 k ∧ v6 = .int .i64 n ∧ Hid (n = (K.take k).foldl (fun n q => sumM n (timeF c f q)) base ∧ 0 ≤ n ∧ n ≤ mostN) ∧ TM B wr b0 ba bt bo bm c U ∧ Below B W wr ∧ Keeps (fun q => q = bm) w wr) (fun _ k _ => K.length - (intOf k).toNat)
 case atStart => exact ⟨0, base, Nat.zero_le _, rfl, rfl, hide ⟨rfl, HBAS.out⟩, HTM3.out, HB3.out, HK3.out⟩
 case round =>
  obtain ⟨k, n, hk, rfl, rfl, hn, htm, hbw, hkp⟩ := hrel
  have HN := hide hn.out
  have HTR := hide htm
  have HBR := hide hbw
  have HKR := hide hkp
  clear hn hbw hkp HTM3 HB3 HK3
  by_cases hlt : k < K.length
  ·have hltz : (k : Int) < K.length := by omega
   have hwk : IntKind.i64.wrap ((k : Int) + 1) = ((k + 1 : Nat) : Int) := by have := HKL.out; rw [IntKind.wrap_i64]; omega
   obtain ⟨sb, so, rfl, hsb, z0⟩ := strs_row (HST.out.ext (HBR.out.mono HCX.out.hW)) k hlt
   have hsn : (K.take (k + 1)).foldl (fun n q => sumM n (timeF c f q)) base = sumM ((K.take k).foldl (fun n q => sumM n (timeF c f q)) base) (timeF c f K[k]) := by rw [take_snoc K k hlt, List.foldl_append]; rfl
   rw [← HN.out.1] at hsn
   have hcal := HIH.out K[k] wr HTR.out HBR.out (HKU.out _ (List.getElem_mem hlt)) (HD.out _ (List.getElem_mem hlt))
   have htb := HTB.out K[k]
   generalize K[k] = p at z0 hsn hcal htb
   generalize timeF c f p = t at hsn hcal htb
   have HSN := hide hsn
   have HCAL := hide hcal
   have HT := hide htb
   have z1 : wr.cell? ⟨ba, 0, none⟩ = some (.func (.func 72) #[] #[.pointer (some ⟨bt, 0, none⟩), .pointer (some ⟨b0, 0, none⟩), .pointer (some ⟨bo, 0, none⟩)]) := by simp [World.cell?, htm.fa]
   clear hsn hcal htb htm
   go_upto_region 6 with (fail)
   refine wp_region_lit ?_
   refine wpList_plain rfl fun Kq hKq => ?_
   go_simp
   refine hKq _ _ ?_
   refine wpList_plain rfl fun Kq hKq => ?_
   go_simp
   refine hKq _ _ ?_
   refine wpList_plain rfl fun Kq hKq => ?_
   go_simp
   refine hKq _ _ ?_
   refine wpList_plain rfl fun Kq hKq => ?_
   go_simp
   refine HCAL.out.mono ?_
   rintro e w7 ⟨rfl, htm7, hk7⟩
   refine hKq _ _ ?_
   clear hKq Kq HCAL z0 z1
   have hxa : Ext w7 (w7.alloc (.cells #[.int .i64 n, .int .i64 t] 3)) := (Below.refl _ _).alloc (Nat.le_refl _) _
   have HSU := hide (fsum_any [n, t] _ _ (ints_lit2 w7 n t) (fun x hx => by
    rcases List.mem_cons.1 hx with rfl | hx
    ·exact HN.out.2
    ·rw [List.mem_singleton.1 hx]
     exact HT.out))
   have hst2 : sumL [n, t] = sumM n t := sumL_two HN.out.2
   rw [hst2] at HSU
   have HTM8 := hide (htm7.ext hxa)
   have HB8 := hide ((HTR.out.below HBR.out hk7).trans (hxa.mono htm7.hB))
   have HK8 := hide ((HKR.out.trans hk7).trans (Keeps.of_ext hxa))
   clear htm7 hk7 hst2 hxa
   refine wpList_plain rfl fun Kq hKq => ?_
   go_simp
   refine hKq _ _ ?_
   refine wpList_plain rfl fun Kq hKq => ?_
   go_simp
   refine HSU.out.mono ?_
   rintro e w8 ⟨rfl, hw8⟩
   refine hKq _ _ ?_
   subst hw8
   clear hKq Kq HSU
   refine wpList_plain rfl fun Kq hKq => ?_
   go_simp
   refine hKq _ _ ?_
   refine wpList_nil ?_
   have HS2 := hide (show sumM n t = (K.take (k + 1)).foldl (fun n q => sumM n (timeF c f q)) base ∧ 0 ≤ sumM n t ∧ sumM n t ≤ mostN from ⟨HSN.out.symm, sumM_bd HN.out.2.1 HT.out.1⟩)
   generalize sumM n t = n2 at *
   go_wp2
   go_roundw
   case rel => exact ⟨k + 1, n2, hlt, by go_num, rfl, hide HS2.out, HTM8.out, HB8.out, HK8.out⟩
   case measure => simp [intOf]; omega
  ·obtain rfl : k = K.length := by omega
   have hltz : ¬ (K.length : Int) < K.length := by omega
   have hr := HN.out.1
   rw [List.take_length] at hr
   have HR := hide hr
   clear hr hlt htm
   go_wp2
   go_ret
   exact ⟨by rw [HBE.out, ← HR.out]; rfl, HTR.out, HKR.out⟩
end Go.Proofs.YtceaeiaoanhlnaaGreatDoor
