import Derived.Test.YtceaeiaoanhlnaaDoorZbw
import Derived.Test.YtceaeiaoanhlnaaDoorZmhw
namespace Go.Proofs.YtceaeiaoanhlnaaDoor
open Go.ChangeShapes Go.WideShapes Go.ChangeAt Go.RowKit Go.Lib Go.Shelf
/-- a path's parts, as rewriting sees them -/
def rparts (s : ByteArray) : List ByteArray := if bl s = [] ∨ bl s = [47] then [] else Lib.splitB ⟨#[47]⟩ 0 (Lib.countB (s.extract 1 s.size) ⟨#[47]⟩) (s.extract 1 s.size)
theorem slash_size : (⟨#[47]⟩ : ByteArray).size = 1 := rfl
theorem splitB_size (save : Nat) : ∀ (k : Nat) (s : ByteArray), ∀ p ∈ Lib.splitB ⟨#[47]⟩ save k s, p.size ≤ s.size
 | 0, s, p, h => by
  rw [Lib.splitB_zero] at h
  rw [List.mem_singleton.1 h]
  exact Nat.le_refl _
 | k + 1, s, p, h => by
  rcases Lib.indexB_cases s ⟨#[47]⟩ with hix | ⟨i, hix, _⟩
  ·rw [Lib.splitB_miss _ _ _ _ hix] at h
   rw [List.mem_singleton.1 h]
   exact Nat.le_refl _
  ·rw [Lib.splitB_hit _ _ _ _ i hix] at h
   rcases List.mem_cons.1 h with rfl | h
   ·rw [ByteArray.size_extract]; omega
   ·have := splitB_size save k _ p h
    rw [ByteArray.size_extract] at this
    omega
theorem rparts_size (s : ByteArray) : ∀ p ∈ rparts s, p.size ≤ s.size := fun p hp => by
 unfold rparts at hp
 split at hp
 ·cases hp
 ·have := splitB_size 0 _ _ p hp
  rw [ByteArray.size_extract] at this
  omega
theorem rparts_none {s : ByteArray} (h : bl s = [] ∨ bl s = [47]) : rparts s = [] := by unfold rparts; rw [if_pos h]
theorem rparts_len {s : ByteArray} (h : ¬ (bl s = [] ∨ bl s = [47])) : (rparts s).length = ((bl s).drop 1).count 47 + 1 := by
 unfold rparts
 rw [if_neg h, Lib.splitB_all ⟨#[47]⟩ (by decide) 0 _ _ rfl]
 congr 1
 show Lib.count (s.extract 1 s.size).data.toList [47] = _
 rw [Lib.count_one, extract_to_end]
 rfl
theorem rparts_le (s : ByteArray) : (rparts s).length ≤ s.size + 1 := by
 by_cases h : bl s = [] ∨ bl s = [47]
 ·rw [rparts_none h]; simp
 ·rw [rparts_len h]
  have h1 := List.count_le_length (a := (47 : UInt8)) (l := (bl s).drop 1)
  have h2 := Lib.size_eq s
  rw [List.length_drop] at h1
  have h3 : (bl s).length = s.size := h2.symm
  omega
theorem sl_nil {α : Type} (enc : α → List Value) (size : Nat) (w : World) : Sl enc size w (.slice none 0 0) [] := ⟨by simp, none, 0, rfl, by simp, fun i x hi => by simp at hi⟩
theorem sl_keep {α : Type} {enc : α → List Value} {size : Nat} {w w' : World} {X : Nat → Prop} {g n cap : Nat} {xs : List α} (h : Sl enc size w (.slice (some ⟨g, 0, none⟩) n cap) xs) (k : Keeps X w w') (hg : ¬ X g) : Sl enc size w' (.slice (some ⟨g, 0, none⟩) n cap) xs := by
 obtain ⟨h1, a, c, h2, hcap, h3⟩ := h
 cases h2
 refine ⟨h1, _, _, rfl, hcap, fun i x hi => ?_⟩
 obtain ⟨b, off, e, hb, hc⟩ := h3 i x hi
 cases e
 exact ⟨_, _, rfl, Nat.lt_of_lt_of_le hb k.size, fun j u hu => (k.cell (p := ⟨g, 0 + i * size + j, none⟩) hb hg).trans (hc j u hu)⟩
/-- a slice of texts that reads so, whatever becomes of the block b -/
def Texts (b : Nat) (w : World) (v : Value) (xs : List ByteArray) : Prop := ∀ X, Keeps (fun q => q = b) w X → Strs X v xs
theorem Texts.now {w : World} {v : Value} {xs : List ByteArray} {b : Nat} (h : Texts b w v xs) : Strs w v xs := h w (Keeps.refl _ _)
theorem Texts.keep {w w' : World} {v : Value} {xs : List ByteArray} {b : Nat} (h : Texts b w v xs) (e : Keeps (fun q => q = b) w w') : Texts b w' v xs := fun X k => h X (e.trans k)
/-- some behind it -/
theorem Texts.drop {w : World} {a : Option Addr} {n c m b : Nat} {xs : List ByteArray} (h : Texts b w (.slice a n c) xs) (hm : m ≤ xs.length) : Texts b w (.slice (if c = m then a else a.map (·.add (m * 1))) (n - m) (c - m)) (xs.drop m) := fun X k => by
 have h1 := h X k
 obtain ⟨hn, hc, hc63⟩ := h1.cap
 by_cases hm0 : m = xs.length
 ·have hd : xs.drop m = [] := by rw [hm0]; exact List.drop_length
  rw [hd]
  refine ⟨by simp, _, c - m, by rw [show n - m = ([] : List ByteArray).length by simp; omega], by simp; omega, fun i x hi => by simp at hi⟩
 ·obtain ⟨b', off, rfl, -⟩ := h1.some (by omega)
  rw [if_neg (by omega)]
  have := h1.drop m (by omega)
  rw [Option.map_some, add_cell']
  exact this
theorem run_slice_low {P : Program} {T e : TypeId} {i : TypeInfo} (hu : P.underlying T = some (.slice e)) (hi : P.info? e = some i) (h1 : i.size = 1) (a : Option Addr) (n c m : Nat) (hm : m ≤ n) (w : World) :
  (Instr.slice T (.slice a n c) (some (.int .i64 (m : Int))) none none).run P w = .ok (.slice (if c = m then a else a.map (·.add (m * 1))) (n - m) (c - m)) w := by
 have hb : (0 : Int) ≤ m ∧ (m : Int) ≤ n := by omega
 simp [Instr.slice, run_underlying hu, sizeOf, typeInfo, hi, h1, Instr.sliceBounds, Instr.sliceBound, asIntOf, hb]
 exact fun h => absurd h (by omega)
set_option maxRecDepth 100000 in
set_option maxHeartbeats 4000000 in
theorem parts_any (s : ByteArray) (b : Nat) (w : World) (hb : b < w.heap.size) (hs : s.size ≤ 1000) (hm : MaxV w) :
  Calls Tryd.prog 32 #[.string s] w fun e w' => ∃ v, e = .returned v ∧ Texts b w' v (rparts s) ∧ Ext w w' := by
 by_cases he : bl s = []
 ·have h1 : (s.toList == []) = true := by rw [toL]; show (bl s == []) = true; rw [he]; rfl
  have h2 : s.toList.isEmpty = true := by rw [toL]; show (bl s).isEmpty = true; rw [he]; rfl
  have HN := hide (rparts_none (s := s) (.inl he))
  clear he
  go_enter Tryd.func32, Tryd.ntmps32
  go_wp2
  go_ret
  exact ⟨_, rfl, fun X _ => by rw [HN.out]; exact sl_nil _ _ _, Below.refl _ _⟩
 ·by_cases hr : bl s = [47]
  ·have h1 : (s.toList == []) = false := by rw [toL]; show (bl s == []) = false; rw [hr]; rfl
   have h2 : s.toList.isEmpty = false := by rw [toL]; show (bl s).isEmpty = false; rw [hr]; rfl
   have h3 : (s.toList == [47]) = true := by rw [toL]; show (bl s == [47]) = true; rw [hr]; rfl
   have HN := hide (rparts_none (s := s) (.inr hr))
   clear he hr
   go_enter Tryd.func32, Tryd.ntmps32
   go_wp2
   go_ret
   exact ⟨_, rfl, fun X _ => by rw [HN.out]; exact sl_nil _ _ _, Below.refl _ _⟩
  ·have h1 : (s.toList == []) = false := by rw [toL]; show (bl s == []) = false; simpa using he
   have h2 : s.toList.isEmpty = false := by rw [toL]; show (bl s).isEmpty = false; simpa using he
   have h3 : (s.toList == [47]) = false := by rw [toL]; show (bl s == [47]) = false; simpa using hr
   have hp : rparts s = Lib.splitB ⟨#[47]⟩ 0 (Lib.countB (s.extract 1 s.size) ⟨#[47]⟩) (s.extract 1 s.size) := by unfold rparts; rw [if_neg (by simp [he, hr])]
   have hlen := Lib.splitB_all ⟨#[47]⟩ (by decide) 0 _ (s.extract 1 s.size) rfl
   have hcle := Lib.countB_le ⟨#[47]⟩ (by decide) _ (s.extract 1 s.size) (Nat.le_refl _)
   have hTs : (s.extract 1 s.size).size ≤ 1000 := by rw [ByteArray.size_extract]; omega
   have h0 : 0 < s.size := by
    have h4 := Lib.size_eq s
    have h5 : 0 < (bl s).length := List.length_pos_iff.2 he
    have h6 : (bl s).length = s.size := h4.symm
    omega
   obtain ⟨m, hmm⟩ := hm
   have hspl := fun (u : World) (hu : Ext w u) => Any.strings_Split Tryd.lSplit (by kernel_rfl) (s.extract 1 s.size) ⟨#[47]⟩ m u (by omega) ((hu.cell (p := ⟨_, 0, none⟩) (World.block_lt_of_cell? w _ hmm)).trans hmm) (by decide)
   obtain ⟨n, hn⟩ : ∃ n, Lib.countB (s.extract 1 s.size) ⟨#[47]⟩ = n := ⟨_, rfl⟩
   rw [hn] at hp hlen hcle
   simp only [hn] at hspl
   rw [← hp] at hlen
   simp only [← hp] at hspl
   have HSPL := hide hspl
   have HLEN := hide hlen
   have HCL := hide (Nat.le_trans hcle hTs)
   clear hspl hlen hcle hTs hmm hn hp he hr
   have h1z : (1 : Int) ≤ s.size := by omega
   generalize rparts s = P at *
   go_enter Tryd.func32, Tryd.ntmps32
   go_wp2_with fail
   refine (HSPL.out _ (Below.refl _ _)).mono ?_
   rintro e w1 ⟨rfl, hw1⟩
   have hle := HLEN.out
   have hst : Texts b w1 (.slice (some ⟨w.heap.size, 0, none⟩) (n + 1) (n + 1)) P := fun X k => by
    rw [← hle]
    refine sl_keep (w := w1) ?_ k (by omega)
    rw [hw1]
    exact strs_new w P _ (by have := HCL.out; omega)
   have he1 : Ext w w1 := by rw [hw1]; exact (Below.refl _ w).alloc (Nat.le_refl _) _
   have HST := hide hst
   have HE1 := hide he1
   clear hw1 hst he1 hle
   go_wp2
   go_ret
   exact ⟨_, rfl, HST.out, HE1.out⟩
/-- parts put behind a text, each behind a slash -/
def putP (o : ByteArray) (L : List ByteArray) : ByteArray := L.foldl (fun o p => o ++ (⟨#[47]⟩ ++ p)) o
theorem putP_size (m : Nat) : ∀ (L : List ByteArray) (o : ByteArray), (∀ p ∈ L, p.size ≤ m) → (putP o L).size ≤ o.size + L.length * (m + 1)
 | [], o, _ => by simp [putP]
 | p :: L, o, h => by
  have h1 := putP_size m L (o ++ (⟨#[47]⟩ ++ p)) fun q hq => h q (List.mem_cons_of_mem _ hq)
  have h2 := h p (List.mem_cons_self ..)
  have h3 : (o ++ (⟨#[47]⟩ ++ p)).size = o.size + (1 + p.size) := by rw [ByteArray.size_append, ByteArray.size_append]; rfl
  show (putP (o ++ (⟨#[47]⟩ ++ p)) L).size ≤ _
  rw [List.length_cons, Nat.succ_mul]
  omega
theorem putP_snoc (o : ByteArray) (L : List ByteArray) (k : Nat) (h : k < L.length) : putP o (L.take (k + 1)) = putP o (L.take k) ++ (⟨#[47]⟩ ++ L[k]) := by
 unfold putP
 rw [take_snoc L k h, List.foldl_append]
 rfl
def BoxS (w : World) (b : Nat) (o : ByteArray) : Prop := w.heap[b]? = some (.cells #[.string o] 9 (0, 0))
theorem BoxS.lt {w : World} {b : Nat} {o : ByteArray} (h : BoxS w b o) : b < w.heap.size := (Array.getElem?_eq_some_iff.1 h).1
theorem BoxS.ext {w w' : World} {b : Nat} {o : ByteArray} (h : BoxS w b o) (e : Ext w w') : BoxS w' b o := (e.block b h.lt).trans h
theorem BoxS.cell {w : World} {b : Nat} {o : ByteArray} (h : BoxS w b o) : w.cell? ⟨b, 0, none⟩ = some (.string o) := by simp only [World.cell?]; rw [h]; rfl
theorem BoxS.frozen {w : World} {b : Nat} {o : ByteArray} (h : BoxS w b o) : w.frozen? ⟨b, 0, none⟩ = false := by simp only [World.frozen?]; rw [h]; simp
theorem BoxS.set {w : World} {b : Nat} {o : ByteArray} (h : BoxS w b o) (o' : ByteArray) : BoxS (w.setCell ⟨b, 0, none⟩ (.string o')) b o' := by
 have := ArrB.set h 0 (.string o')
 unfold BoxS
 simpa using this
set_option maxRecDepth 100000 in
set_option maxHeartbeats 4000000 in
theorem put_any (L : List ByteArray) (v : Value) (o : ByteArray) (b : Nat) (w : World) (hv : Texts b w v L) (hb : BoxS w b o) (hl : L.length ≤ 2000) (ho : o.size ≤ 4000000) (hL : ∀ p ∈ L, p.size ≤ 1000) :
  Calls Tryd.prog 31 #[v, .pointer (some ⟨b, 0, none⟩)] w fun e w' => e = .returned (.tuple #[]) ∧ BoxS w' b (putP o L) ∧ Keeps (fun q => q = b) w w' := by
 obtain ⟨hl63, a, cap, rfl⟩ := hv.now.shape
 have HV := hide hv
 have HB := hide hb
 have HLL := hide hL
 have hsz := fun k => putP_size 1000 (L.take k) o fun p hp => hL p (List.mem_of_mem_take hp)
 have HSZ := hide hsz
 clear hv hb hL hsz
 go_enter Tryd.func31, Tryd.ntmps31
 go_wp2_with fail
 go_loopw [7] (fun v7 wr => ∃ k : Nat, k ≤ L.length ∧ v7 = .int .i64 k ∧ BoxS wr b (putP o (L.take k)) ∧ Keeps (fun q => q = b) w wr) (fun i _ => L.length - (intOf i).toNat)
 case atStart => exact ⟨0, Nat.zero_le _, rfl, HB.out, Keeps.refl _ _⟩
 case round =>
  obtain ⟨k, hk, rfl, hbx, hkp⟩ := hrel
  generalize wr = w1 at *
  have HK := hide hkp
  have HBX := hide hbx
  clear hkp hbx
  by_cases hlt : k < L.length
  ·have hkz : (k : Int) < L.length := by omega
   obtain ⟨b', off', rfl, hbb, c0⟩ := strs_at (HV.out w1 HK.out) k hlt
   have hsn := putP_snoc o L k hlt
   have h1 := HSZ.out k
   have h2 := HLL.out _ (List.getElem_mem hlt)
   have hmul : (L.take k).length * 1001 ≤ 2000 * 1001 := Nat.mul_le_mul_right _ (by rw [List.length_take]; omega)
   generalize L[k] = p at *
   generalize putP o (L.take k) = q at *
   obtain ⟨q', hq'⟩ : ∃ q', putP o (L.take (k + 1)) = q' := ⟨_, rfl⟩
   rw [hq'] at hsn
   have HQ' := hide hq'
   clear hq'
   have hps : ((⟨#[47]⟩ : ByteArray) ++ p).size = 1 + p.size := by rw [ByteArray.size_append]; rfl
   have hr1 : ∀ X, (Op.stringOp .add (⟨#[47]⟩ : ByteArray) p).run Tryd.prog X = .ok (.string (⟨#[47]⟩ ++ p)) X := fun X => run_string_add_sum X _ _ (by rw [slash_size]; omega)
   obtain ⟨s, hs⟩ : ∃ s, (⟨#[47]⟩ : ByteArray) ++ p = s := ⟨_, rfl⟩
   simp only [hs] at hr1
   rw [hs] at hps hsn
   have hr2 : ∀ X, (Op.stringOp .add q s).run Tryd.prog X = .ok (.string (q ++ s)) X := fun X => run_string_add_sum X _ _ (by omega)
   rw [← hsn] at hr2
   have hc := HBX.out.cell
   have hz := HBX.out.frozen
   have HR := hide (And.intro hr1 hr2)
   clear h1 h2 hmul hps hs hsn hl ho hr1 hr2
   obtain ⟨hr1, hr2⟩ := HR.out
   go_wp2
   go_roundw
   case rel => exact ⟨k + 1, by omega, by go_num, by rw [HQ'.out]; exact HBX.out.set q', HK.out.trans (Keeps.of_set w1 b 0 _ rfl)⟩
   case measure => simp [intOf]; omega
  ·have hge : L.length ≤ k := by omega
   have hkz : ¬ (k : Int) < L.length := by omega
   have hfin : putP o (L.take k) = putP o L := by rw [List.take_of_length_le hge]
   have HF := hide hfin
   clear hfin
   go_wp2
   go_end0
   exact ⟨rfl, by rw [← HF.out]; exact HBX.out, HK.out⟩
end Go.Proofs.YtceaeiaoanhlnaaDoor
