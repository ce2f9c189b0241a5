/- Merged texts (GkS, GpA, GkA, GkB). -/
import Derived.Shelf.Sort.Plain
import Derived.Shelf.Slices.In.SortNone
import Derived.Shelf.Slices.CompactI
import Derived.Shelf.Slices.Turned
import Derived.Ground.NamesProg
import Derived.Ground.Names2Prog
import Derived.Lib.OwnBridge
import Derived.Lib.SlicesCompact
import Derived.Test.YtmpciohmljpncaaGreatDoorZa
import Derived.Test.YtmpciohmljpncaaGreatDoorZrl
import Derived.Test.YtmpciohmljpncaaGreatDoorZx
import Derived.Test.YtmpciohmljpncaaGreatDoorZmh
import Derived.Test.YtmpciohmljpncaaGreatDoorZcb
import Derived.Test.YtmpciohmljpncaaGreatDoorZps
namespace Go.Proofs
open Go.Shelf
def Tryz.l189_ren : Go.Shelf.Ren := ⟨fun | 189 => 61 | 125 => 132 | 257 => 131 | 128 => 217 | 129 => 136 | 294 => 208 | 295 => 209 | 296 => 210 | 297 => 211 | 298 => 212 | 299 => 213 | 216 => 214 | 300 => 215 | 301 => 216 | 328 => 309 | 329 => 310 | 330 => 311 | 331 => 312 | 332 => 313 | 215 => 184 | 343 => 390 | n => n, fun | 28 => 22 | 3 => 3 | 46 => 173 | 0 => 0 | 51 => 416 | 53 => 80 | 4 => 4 | 183 => 409 | 182 => 408 | 131 => 401 | 5 => 5 | 9 => 9 | 218 => 508 | 222 => 512 | 228 => 593 | 229 => 84 | n => n, fun | n => n⟩
theorem Tryz.l189 : Go.Proofs.Lays.n189 Tryz.prog Tryz.l189_ren := {
  mixed := by kernel_rfl
  f125 := Tryz.func132.trans (congrArg some (by kernel_rfl))
  f128 := Tryz.func217.trans (congrArg some (by kernel_rfl))
  f129 := Tryz.func136.trans (congrArg some (by kernel_rfl))
  f189 := Tryz.func61.trans (congrArg some (by kernel_rfl))
  f215 := Tryz.func184.trans (congrArg some (by kernel_rfl))
  f216 := Tryz.func214.trans (congrArg some (by kernel_rfl))
  f257 := Tryz.func131.trans (congrArg some (by kernel_rfl))
  f294 := Tryz.func208.trans (congrArg some (by kernel_rfl))
  f295 := Tryz.func209.trans (congrArg some (by kernel_rfl))
  f296 := Tryz.func210.trans (congrArg some (by kernel_rfl))
  f297 := Tryz.func211.trans (congrArg some (by kernel_rfl))
  f298 := Tryz.func212.trans (congrArg some (by kernel_rfl))
  f299 := Tryz.func213.trans (congrArg some (by kernel_rfl))
  f300 := Tryz.func215.trans (congrArg some (by kernel_rfl))
  f301 := Tryz.func216.trans (congrArg some (by kernel_rfl))
  f328 := Tryz.func309.trans (congrArg some (by kernel_rfl))
  f329 := Tryz.func310.trans (congrArg some (by kernel_rfl))
  f330 := Tryz.func311.trans (congrArg some (by kernel_rfl))
  f331 := Tryz.func312.trans (congrArg some (by kernel_rfl))
  f332 := Tryz.func313.trans (congrArg some (by kernel_rfl))
  f343 := Tryz.func390.trans (congrArg some (by kernel_rfl))
  t0 := Tryz.underlying0
  a0 := Tryz.isAgg0
  z0 := Tryz.sizeOf0
  v0 := Tryz.zeroValue0
  t3 := Tryz.underlying3
  a3 := Tryz.isAgg3
  z3 := Tryz.sizeOf3
  v3 := Tryz.zeroValue3
  t4 := Tryz.underlying4
  a4 := Tryz.isAgg4
  z4 := Tryz.sizeOf4
  v4 := Tryz.zeroValue4
  t5 := Tryz.underlying5
  a5 := Tryz.isAgg5
  z5 := Tryz.sizeOf5
  v5 := Tryz.zeroValue5
  t9 := Tryz.underlying9
  a9 := Tryz.isAgg9
  z9 := Tryz.sizeOf9
  v9 := Tryz.zeroValue9
  t28 := Tryz.underlying22
  a28 := Tryz.isAgg22
  z28 := Tryz.sizeOf22
  v28 := Tryz.zeroValue22
  t46 := Tryz.underlying173
  a46 := Tryz.isAgg173
  z46 := Tryz.sizeOf173
  v46 := Tryz.zeroValue173
  t51 := Tryz.underlying416
  a51 := Tryz.isAgg416
  z51 := Tryz.sizeOf416
  v51 := Tryz.zeroValue416
  t53 := Tryz.underlying80
  a53 := Tryz.isAgg80
  z53 := Tryz.sizeOf80
  v53 := Tryz.zeroValue80
  t131 := Tryz.underlying401
  a131 := Tryz.isAgg401
  z131 := Tryz.sizeOf401
  v131 := Tryz.zeroValue401
  t182 := Tryz.underlying408
  a182 := Tryz.isAgg408
  z182 := Tryz.sizeOf408
  v182 := Tryz.zeroValue408
  t183 := Tryz.underlying409
  a183 := Tryz.isAgg409
  z183 := Tryz.sizeOf409
  v183 := Tryz.zeroValue409
  t218 := Tryz.underlying508
  a218 := Tryz.isAgg508
  z218 := Tryz.sizeOf508
  v218 := Tryz.zeroValue508
  t222 := Tryz.underlying512
  a222 := Tryz.isAgg512
  z222 := Tryz.sizeOf512
  v222 := Tryz.zeroValue512
  t228 := Tryz.underlying593
  a228 := Tryz.isAgg593
  z228 := Tryz.sizeOf593
  v228 := Tryz.zeroValue593
  t229 := Tryz.underlying84
  a229 := Tryz.isAgg84
  z229 := Tryz.sizeOf84
  v229 := Tryz.zeroValue84 }
def Tryz.l107_ren : Go.Shelf.Ren := ⟨fun | 107 => 357 | 108 => 437 | n => n, fun | 28 => 22 | 3 => 3 | 4 => 4 | 0 => 0 | n => n, fun | n => n⟩
theorem Tryz.l107 : Go.Proofs.Lays.n107 Tryz.prog Tryz.l107_ren := {
  mixed := by kernel_rfl
  f107 := Tryz.func357.trans (congrArg some (by kernel_rfl))
  f108 := Tryz.func437.trans (congrArg some (by kernel_rfl))
  t0 := Tryz.underlying0
  a0 := Tryz.isAgg0
  z0 := Tryz.sizeOf0
  v0 := Tryz.zeroValue0
  t3 := Tryz.underlying3
  a3 := Tryz.isAgg3
  z3 := Tryz.sizeOf3
  v3 := Tryz.zeroValue3
  t4 := Tryz.underlying4
  a4 := Tryz.isAgg4
  z4 := Tryz.sizeOf4
  v4 := Tryz.zeroValue4
  t28 := Tryz.underlying22
  a28 := Tryz.isAgg22
  z28 := Tryz.sizeOf22
  v28 := Tryz.zeroValue22 }
def Tryz.l220_ren : Go.Shelf.Ren := ⟨fun | 20 => 135 | n => n, fun | 22 => 22 | 3 => 3 | 4 => 4 | 0 => 0 | n => n, fun | n => n⟩
theorem Tryz.l220 : Go.Proofs.Lays2.n20 Tryz.prog Tryz.l220_ren := {
  mixed := by kernel_rfl
  f20 := Tryz.func135.trans (congrArg some (by kernel_rfl))
  t0 := Tryz.underlying0
  a0 := Tryz.isAgg0
  z0 := Tryz.sizeOf0
  v0 := Tryz.zeroValue0
  t3 := Tryz.underlying3
  a3 := Tryz.isAgg3
  z3 := Tryz.sizeOf3
  v3 := Tryz.zeroValue3
  t4 := Tryz.underlying4
  a4 := Tryz.isAgg4
  z4 := Tryz.sizeOf4
  v4 := Tryz.zeroValue4
  t22 := Tryz.underlying22
  a22 := Tryz.isAgg22
  z22 := Tryz.sizeOf22
  v22 := Tryz.zeroValue22
  i3 := by kernel_rfl }
end Go.Proofs
namespace Go.Proofs.YtmpciohmljpncaaGreatDoor.Rg
open Go.Proofs.YtmpciohmljpncaaGreatDoor
open Go.Shelf Go.RowKit Go.Sort Go.Lib
def srtI (l : List Int) : List Int := l.mergeSort fun x y => decide (x ≤ y)
theorem srtI_perm (l : List Int) : (srtI l).Perm l := List.mergeSort_perm l _
theorem srtI_sorted (l : List Int) : (srtI l).Pairwise (fun x y => x ≤ y) := by
 have h := List.pairwise_mergeSort (le := fun x y : Int => decide (x ≤ y)) (fun a b c h1 h2 => by simp at *; omega) (fun a b => by simp; omega) l
 exact h.imp (by simp)
def ends (ids : List Int) : List Int := compact (srtI ids)
theorem compact_inv (zs : List Int) (hz : zs.Pairwise (fun x y => x ≤ y)) (m : Nat) (hm : m ≤ zs.length) :
  (compactUpTo zs.toArray m).Pairwise (fun x y => x < y) ∧ (∀ x ∈ compactUpTo zs.toArray m, ∃ j, j < m ∧ x = zs.toArray[j]!) ∧ (∀ j, j < m → zs.toArray[j]! ∈ compactUpTo zs.toArray m) := by
 have hle : ∀ i j, i ≤ j → j < zs.length → zs.toArray[i]! ≤ zs.toArray[j]! := by
  intro i j hij hj
  rcases Nat.lt_or_eq_of_le hij with h | h
  ·have := List.pairwise_iff_getElem.1 hz i j (by omega) hj h
   simpa [hj, (by omega : i < zs.length)] using this
  ·subst h; omega
 induction m with
 | zero => exact ⟨by simp [compactUpTo], fun x hx => by simp [compactUpTo] at hx, fun j hj => by omega⟩
 | succ m ih =>
  obtain ⟨h1, h2, h3⟩ := ih (by omega)
  rw [compactUpTo_succ]
  by_cases hk : keeps zs.toArray m = true
  ·rw [if_pos hk]
   refine ⟨List.pairwise_append.2 ⟨h1, by simp, ?_⟩, ?_, ?_⟩
   ·intro x hx y hy
    rw [List.mem_singleton.1 hy]
    obtain ⟨j, hj, rfl⟩ := h2 x hx
    have hm0 : m ≠ 0 := by omega
    have hne : zs.toArray[m]! ≠ zs.toArray[m-1]! := by
     unfold keeps at hk
     simp only [hm0, false_or, decide_eq_true_eq] at hk
     exact hk
    have a1 := hle j (m-1) (by omega) (by omega)
    have a2 := hle (m-1) m (by omega) (by omega)
    omega
   ·intro x hx
    rcases List.mem_append.1 hx with h | h
    ·obtain ⟨j, hj, e⟩ := h2 x h; exact ⟨j, by omega, e⟩
    ·exact ⟨m, by omega, List.mem_singleton.1 h⟩
   ·intro j hj
    by_cases hjm : j = m
    ·subst hjm; simp
    ·exact List.mem_append_left _ (h3 j (by omega))
  ·rw [if_neg hk, List.append_nil]
   refine ⟨h1, fun x hx => ?_, fun j hj => ?_⟩
   ·obtain ⟨j, hj, e⟩ := h2 x hx; exact ⟨j, by omega, e⟩
   ·by_cases hjm : j = m
    ·subst hjm
     have hj0 : j ≠ 0 := fun e => hk (by subst e; simp [keeps])
     have he : zs.toArray[j]! = zs.toArray[j-1]! := by
      unfold keeps at hk
      simp only [hj0, false_or, decide_eq_true_eq] at hk
      exact Classical.not_not.1 hk
     rw [he]
     exact h3 (j-1) (by omega)
    ·exact h3 j (by omega)
theorem ends_sorted (ids : List Int) : (ends ids).Pairwise (fun x y => x < y) := (compact_inv (srtI ids) (srtI_sorted ids) _ (Nat.le_refl _)).1
theorem ends_mem (ids : List Int) (x : Int) : x ∈ ends ids ↔ x ∈ ids := by
 have h := compact_inv (srtI ids) (srtI_sorted ids) _ (Nat.le_refl _)
 rw [← (srtI_perm ids).mem_iff]
 constructor
 ·intro hx
  obtain ⟨j, hj, rfl⟩ := h.2.1 x hx
  simp [hj]
 ·intro hx
  obtain ⟨j, hj, rfl⟩ := List.getElem_of_mem hx
  have := h.2.2 j hj
  simpa [hj, ends, compact] using this
theorem flat_encI (zs : List Int) : zs.flatMap encI = zs.map (Value.int .i64) := by
 induction zs with
 | nil => rfl
 | cons z zs ih => simp [encI, ih]
theorem own_grow {w : World} {base : Nat} {e : TypeId} {size n : Nat} {v : Value} {xs : List Value} (h : w.ownsRow base e size v n xs) (os : Array Obj) : (grow w os).ownsRow base e size v n xs := by
 refine ⟨h.1, ?_⟩
 rcases h.2 with hn | ⟨g, cap, cur, rfl, hb, hgg, rest⟩
 ·exact .inl hn
 ·refine .inr ⟨g, cap, cur, rfl, hb, ?_, rest⟩
  have hl := (Array.getElem?_eq_some_iff.1 hgg).1
  show (w.heap ++ os)[g]? = _
  rw [Array.getElem?_append_left hl]; exact hgg
theorem below_grow' {B : Nat} {w0 w : World} (h : Below B w0 w) (_hw : w0.heap.size ≤ w.heap.size) (os : Array Obj) (hB : B ≤ w.heap.size) : Below B w0 (grow w os) :=
 ⟨h.os, h.tape, h.output, Nat.le_trans h.size (by simp), fun k hk => by
  rw [← h.block k hk]
  show (w.heap ++ os)[k]? = _
  rw [Array.getElem?_append_left (by omega)]⟩
end Go.Proofs.YtmpciohmljpncaaGreatDoor.Rg
namespace Go.Proofs.YtmpciohmljpncaaGreatDoor
open Go.ChangeShapes Go.WideShapes Go.ChangeAt Go.RowKit Go.Lib Go.Shelf
/-- a path's rules -/
def onR (R : List RuleD) (p : ByteArray) : List RuleD := R.filter fun r => onB (bl r.path) r.ex (bl p)
/-- the services of rules: of parts that have a weight -/
def svcsOf (R : List RuleD) : List Int := R.flatMap fun r => (r.P.filter fun q => decide (0 < q.2)).map (·.1)
def copiesOf (R : List RuleD) : List Int := (R.filter fun r => decide (r.mi ≠ 0)).map (·.mi)
def targS (R : List RuleD) (p : ByteArray) : List Int := Rg.ends (svcsOf (onR R p))
def targC (R : List RuleD) (p : ByteArray) : List Int := copiesOf (onR R p)
def svc0 : SvcD := ⟨0, .slice none 0 0, [], 0, 0, 0, 0, 0⟩
/-- a service; a zero one, if there is none -/
def findS (S : List SvcD) (id : Int) : SvcD := (S.find? fun s => s.id == id).getD svc0
def kidsG (c : ConfD) (id : Int) : List (List Int) := (findS c.S id).K.map (targS c.R) ++ (findS c.S id).K.flatMap fun p => (targC c.R p).map fun x => [x]
/-- most -/
def mostN : Int := 4611686018427387903
def sumM (a b : Int) : Int := min (a + b) mostN
def selfN (a b : Int) : Int := if a = b then 1 else 0
def great (l : List Int) (f : Int → Int) : Int := l.foldl (fun n x => max n (f x)) 0
/-- what a service's calls may make, where each service makes so many -/
def stpN (K : List (List Int)) (own : Int) (f : Int → Int) : Int := K.foldl (fun n l => sumM n (great l f)) own
def lvl (K : Int → List (List Int)) (tg : Int) : Nat → Int → Int
 | 0, id => selfN id tg
 | d + 1, id => stpN (K id) (selfN id tg) (lvl K tg d)
theorem great_ge (f : Int → Int) : ∀ (l : List Int) (n : Int), n ≤ l.foldl (fun n x => max n (f x)) n
 | [], n => Int.le_refl n
 | x :: l, n => Int.le_trans (show n ≤ max n (f x) by omega) (great_ge f l (max n (f x)))
theorem great_nn (f : Int → Int) (l : List Int) : 0 ≤ great l f := great_ge f l 0
theorem step_ge (f : Int → Int) : ∀ (K : List (List Int)) (n : Int), n ≤ mostN → n ≤ stpN K n f
 | [], n, _ => Int.le_refl n
 | l :: K, n, h => by
  have h0 := great_nn f l
  refine Int.le_trans ?_ (step_ge f K (sumM n (great l f)) (by unfold sumM; omega))
  unfold sumM
  omega
theorem self_bd (a b : Int) : 0 ≤ selfN a b ∧ selfN a b ≤ 1 := by unfold selfN; split <;> omega
end Go.Proofs.YtmpciohmljpncaaGreatDoor
namespace Go.Proofs.YtmpciohmljpncaaGreatDoor
open Go.ChangeShapes Go.WideShapes Go.ChangeAt Go.RowKit Go.Lib Go.Shelf
/-- a block that is laid and written whole at once -/
theorem wpList_box {ops : Array Oper} {rest : List Oper} {o1 o2 : Oper} {a : Act} {w : World} {Q : Exit → Act → World → Prop} (hg1 : o1.guard = none) (T : TypeId) (ho1 : o1.op = .alloc T) (hg2 : o2.guard = none) (x y : Operand) (ho2 : o2.op = .store T x y) (cells : List Value) (Z : Array Value)
  (hz : ∀ w : World, (Instr.alloc T true (.tuple #[])).run Tryz.prog w = .ok (.pointer (some ⟨w.heap.size, 0, none⟩)) (w.alloc (.cells Z T))) (hsz : Z.size = cells.length)
  (hx : (a.put o1.dst (.pointer (some ⟨w.heap.size, 0, none⟩))).eval x = .pointer (some ⟨w.heap.size, 0, none⟩)) (hy : (a.put o1.dst (.pointer (some ⟨w.heap.size, 0, none⟩))).eval y = .agg cells.toArray)
  (hi : (Tryz.prog.info? T).map (·.size) = some cells.length) (h1 : ∀ v ∈ cells, v.oneCell' = true)
  (h : ∀ w', w'.heap[w.heap.size]? = some (.cells cells.toArray T (0, 0)) → Ext w w' → wpList Tryz.prog ops Q rest ((a.put o1.dst (.pointer (some ⟨w.heap.size, 0, none⟩))).put o2.dst undef) w') : wpList Tryz.prog ops Q (o1 :: o2 :: rest) a w := by
 refine wpList_plain hg1 fun K hK => ?_
 unfold Oper.wp
 simp [execOp, ho1, hz, Result.andThen]
 refine hK _ _ ?_
 have hbz := heap_alloc_new w (.cells Z T)
 have hth : (w.alloc (.cells Z T)).there w.heap.size 0 cells.length := fun q hq => by
  rw [Nat.zero_add]
  refine ⟨?_, by simp only [World.frozen?]; rw [hbz]; simp⟩
  simp only [World.cell?, hbz]
  rw [← hsz] at hq
  simp [hq]
 refine wpList_store_mid hg2 T x y ho2 w.heap.size 0 cells.toArray hx hy (by simpa using hth) (by simpa using hi) (all_oneCell_toArray h1) ?_
 have hrs := World.rangeAt_setCells_same (w.alloc (.cells Z T)) w.heap.size 0 cells hth
 obtain ⟨cs, hcs1, hcs2⟩ := setCells_block w.heap.size T (0, 0) cells 0 (w.alloc (.cells Z T)) _ hbz
 have hk5 := keeps_setCells w.heap.size cells 0 (w.alloc (.cells Z T))
 have e : cs = cells.toArray := by
  apply Array.ext_getElem?
  intro j
  by_cases hj : j < cells.length
  ·have := hrs j cells[j] (List.getElem?_eq_getElem hj)
   rw [Nat.zero_add] at this
   simp only [World.cell?, hcs1] at this
   exact (by simpa using this : cs[j]? = some cells[j]).trans (by simp [hj])
  ·rw [Array.getElem?_eq_none (by rw [hcs2]; omega), Array.getElem?_eq_none (by simpa using hj)]
 rw [e] at hcs1
 exact h _ hcs1 (Keeps.ext ((Below.refl _ w).alloc (Nat.le_refl _) _) hk5 (fun g hg => by omega))
theorem allocV (w : World) : (Instr.alloc 35 true (.tuple #[])).run Tryz.prog w = .ok (.pointer (some ⟨w.heap.size, 0, none⟩)) (w.alloc (.cells #[.int .i64 0, .slice none 0 0, .int .i64 0, .int .i64 0, .int .i64 0, .int .i64 0, .int .i64 0] 35)) := by kernel_rfl
theorem svcs_row {w : World} {a : Option Addr} {n cap : Nat} {xs : List SvcD} (h : Svcs w (.slice a n cap) xs) (i : Nat) (hi : i < xs.length) :
  ∃ b off, a = some ⟨b, off, none⟩ ∧ b < w.heap.size ∧ w.rangeAt b (off + i * 7) (encV xs[i]) := by
 obtain ⟨_, a', cap', hv, _, hc⟩ := h
 cases hv
 obtain ⟨b, off, ha, hb, hc⟩ := hc i xs[i] (List.getElem?_eq_getElem hi)
 exact ⟨b, off, ha, hb, fun j v hv => by simpa using hc j v hv⟩
/-- the kids' lists have a shape -/
def KSh (S : List SvcD) : Prop := ∀ s ∈ S, ∃ a n c, s.kv = .slice a n c
theorem cell_box {w : World} {b : Nat} {T : TypeId} {f : Nat × Nat} {l : List Value} (h : w.heap[b]? = some (.cells l.toArray T f)) (j : Nat) (u : Value) (hu : l[j]? = some u) : w.cell? ⟨b, j, none⟩ = some u := by
 simp only [World.cell?, h]
 simpa using hu
theorem range_box {w : World} {b : Nat} {T : TypeId} {f : Nat × Nat} {l : List Value} (h : w.heap[b]? = some (.cells l.toArray T f)) : w.rangeAt b 0 l := fun j v hv => by
 rw [Nat.zero_add]
 exact cell_box h j v hv
theorem there_box {w : World} {b : Nat} {T : TypeId} {l : List Value} (h : w.heap[b]? = some (.cells l.toArray T (0, 0))) : w.there b 0 l.length := fun j hj => by
 rw [Nat.zero_add]
 refine ⟨?_, by simp only [World.frozen?, h]; simp⟩
 simp only [World.cell?, h]
 simp [hj]
theorem findS_at {S : List SvcD} {id : Int} {k : Nat} (hk : k < S.length) (hno : thereB (S.take k) id = false) (he : S[k].id = id) : findS S id = S[k] := by
 unfold findS
 rw [show S.find? (fun s => s.id == id) = some S[k] from ?_]
 ·rfl
 rw [List.find?_eq_some_iff_getElem]
 refine ⟨by simpa using he, k, hk, rfl, fun j hj => ?_⟩
 have h1 : S[j] ∈ S.take k := by
  rw [List.mem_take_iff_getElem]
  exact ⟨j, by omega, rfl⟩
 have := List.any_eq_false.1 hno _ h1
 simpa using this
theorem findS_none {S : List SvcD} {id : Int} (hno : thereB S id = false) : findS S id = svc0 := by
 unfold findS
 rw [show S.find? (fun s => s.id == id) = none from List.find?_eq_none.2 fun s hs => List.any_eq_false.1 hno s hs]
 rfl
theorem encV_ones {s : SvcD} {a : Option Addr} {n c : Nat} (h : s.kv = .slice a n c) : ∀ v ∈ encV s, v.oneCell' = true := by
 intro v hv
 simp only [encV, h, List.mem_cons, List.not_mem_nil, or_false] at hv
 rcases hv with rfl | rfl | rfl | rfl | rfl | rfl | rfl <;> rfl
set_option maxRecDepth 100000 in
set_option maxHeartbeats 8000000 in
theorem find_any (c : ConfD) (id : Int) (w : World) (hs : Svcs w c.sv c.S) (hks : KSh c.S) :
  Calls Tryz.prog 66 #[c.val, .int .i64 id] w fun e w' => e = .returned (findS c.S id).val ∧ Ext w w' := by
 obtain ⟨dv, hd1, hd2⟩ := Tryz.svcDesc
 obtain ⟨hl', aS, cS, hvS⟩ := hs.shape
 have hx : Ext w ((w.alloc (.cells (encC c).toArray 30)).alloc (.cells (encV svc0).toArray 35)) := ((Below.refl _ _).alloc (Nat.le_refl _) _).alloc (by simp) _
 have hb1 : ((w.alloc (.cells (encC c).toArray 30)).alloc (.cells (encV svc0).toArray 35)).cell? ⟨w.heap.size, 0, none⟩ = some (.slice aS c.S.length cS) := by rw [← hvS]; simp [encC]
 have hb4 := heap_alloc_new (w.alloc (.cells (encC c).toArray 30)) (.cells (encV svc0).toArray 35)
 have e1 : (w.alloc (.cells (encC c).toArray 30)).heap.size = w.heap.size + 1 := by simp
 rw [e1] at hb4
 rw [hvS] at hs
 have HC := hide hs
 have HKS := hide hks
 clear hs hks hvS
 generalize c.S = S at *
 show Calls Tryz.prog 66 #[.agg (encC c).toArray, .int .i64 id] w _
 go_enter Tryz.func66, Tryz.ntmps66
 go_upto_region 1 with (fail)
 show Code.wp _ _ _ _ ((w.alloc (.cells (encC c).toArray 30)).alloc (.cells (encV svc0).toArray 35))
 generalize (w.alloc (.cells (encC c).toArray 30)).alloc (.cells (encV svc0).toArray 35) = W at hx hb1 hb4 ⊢
 obtain ⟨b0, hb0⟩ : ∃ b, w.heap.size = b := ⟨_, rfl⟩
 rw [hb0] at hb1 hb4 ⊢
 have hcl : ∀ X, Ext W X → X.cell? ⟨b0, 0, none⟩ = some (.slice aS S.length cS) := fun X hX => (hX.cell (p := ⟨b0, 0, none⟩) (World.block_lt_of_cell? W _ hb1)).trans hb1
 have hc4 : ∀ X, Ext W X → X.heap[b0 + 1]? = some (.cells (encV svc0).toArray 35 (0, 0)) := fun X hX => (hX.block _ (Array.getElem?_eq_some_iff.1 hb4).1).trans hb4
 have HCL := hide hcl
 have HC4 := hide hc4
 have HX := hide hx
 have HB0 := hide hb0
 clear hx hb4 hcl hc4 e1 hb0
 go_wp2_with fail
 clear hb1
 go_loopw [10] (fun v10 wr => ∃ k : Nat, k ≤ S.length ∧ v10 = .int .i64 k ∧ Hid (thereB (S.take k) id = false) ∧ Hid (Ext W wr)) (fun i _ => S.length - (intOf i).toNat)
 case atStart => exact ⟨0, Nat.zero_le _, rfl, rfl, Below.refl _ _⟩
 case round =>
  obtain ⟨k, hk, rfl, hno, hext⟩ := hrel
  have HNO := hide hno.out
  have HY := hide hext.out
  clear hno hext
  by_cases hlt : k < S.length
  ·have hltz : (k : Int) < S.length := by omega
   have hwk : IntKind.i64.wrap ((k : Int) + 1) = ((k + 1 : Nat) : Int) := by rw [IntKind.wrap_i64]; omega
   obtain ⟨b, off, rfl, hbb, hr⟩ := svcs_row (HC.out.ext (HX.out.trans HY.out)) k hlt
   have hsn : thereB (S.take (k + 1)) id = (S[k].id == id) := by
    have := HNO.out
    unfold thereB at this ⊢
    rw [take_snoc S k hlt, List.any_append, this]
    simp
   have hfs : S[k].id = id → findS S id = S[k] := findS_at hlt HNO.out
   obtain ⟨ka, kn, kc, hkv⟩ := HKS.out S[k] (List.getElem_mem hlt)
   generalize S[k] = s at hr hsn hfs hkv
   go_upto_region 3 with (fail)
   refine wp_region_lit ?_
   refine wpList_plain rfl fun K hK => ?_
   go_simp
   refine hK _ _ ?_
   refine wpList_load_mid rfl 35 (.tmp 12) rfl b (off + k * 7) rfl (encV s) dv hr hd1 hd2 Tryz.svcSize ?_
   refine wpList_box rfl 35 rfl rfl (.tmp 6) (.tmp 13) rfl (encV s) _ allocV rfl rfl rfl Tryz.svcSize (encV_ones hkv) fun w2 hb2 E2 => ?_
   refine wpList_nil ?_
   simp only [Act.put, List.setIfInBounds_toArray, List.set_cons_succ, List.set_cons_zero]
   obtain ⟨g, hg⟩ : ∃ g, wr.heap.size = g := ⟨_, rfl⟩
   rw [hg] at hb2 ⊢
   have d1 : w2.cell? ⟨g, 0, none⟩ = some (.int .i64 s.id) := cell_box hb2 0 _ rfl
   have HB2 := hide hb2
   have HY2 := hide (HY.out.trans E2)
   clear hb2 E2 hr hg
   by_cases he : s.id = id
   ·have HFS := hide (hfs he)
    clear hsn hfs
    go_upto_region 5 with (fail)
    refine wp_region_lit ?_
    refine wpList_load_mid rfl 35 (.tmp 6) rfl g 0 rfl (encV s) dv (range_box HB2.out) hd1 hd2 Tryz.svcSize ?_
    have h4 := HC4.out w2 HY2.out
    refine wpList_store_mid rfl 35 (.tmp 4) (.tmp 18) rfl (b0 + 1) 0 (encV s).toArray rfl rfl (show World.there _ (b0 + 1) 0 7 from there_box (l := encV svc0) h4) Tryz.svcSize (all_oneCell_toArray (encV_ones hkv)) ?_
    have hrs := World.rangeAt_setCells_same w2 (b0 + 1) 0 (encV s) (show w2.there (b0 + 1) 0 7 from there_box (l := encV svc0) h4)
    have hk5 := keeps_setCells (b0 + 1) (encV s) 0 w2
    have HE5 := hide (Keeps.ext (HX.out.trans HY2.out) hk5 (fun q hq => by rw [HB0.out]; omega))
    generalize w2.setCells (b0 + 1) 0 (encV s) = W5 at hrs HE5 ⊢
    have HRG := hide hrs
    clear hrs hk5 h4
    refine wpList_nil ?_
    simp only [Act.put]
    go_wp2_with (fail)
    (try simp only [Exit.inBlock, Exit.then])
    refine bodyPost_ret (results_cell_mid rfl _ _ (b0 + 1) 0 (encV s) dv rfl HRG.out hd1 hd2 Tryz.svcSize) rfl ?_
    exact ⟨by rw [HFS.out]; rfl, HE5.out⟩
   ·have hne : (s.id == id) = false := by simp [he]
    rw [hne] at hsn
    have HSN := hide hsn
    clear hsn hfs
    go_wp2
    go_roundw
    case rel => exact ⟨k + 1, hlt, by go_num, HSN.out, HY2.out⟩
    case measure => simp [intOf]; omega
  ·obtain rfl : k = S.length := by omega
   have hno := HNO.out
   rw [List.take_length] at hno
   have HFS := hide (findS_none hno)
   clear hno HNO
   go_upto_region 7 with (fail)
   refine wp_region_lit ?_
   refine wpList_plain rfl fun K hK => ?_
   go_simp
   refine hK _ _ ?_
   have h4 := HC4.out wr HY.out
   refine wpList_store_mid rfl 35 (.tmp 4) (.tmp 20) rfl (b0 + 1) 0 (encV svc0).toArray rfl rfl (show World.there _ (b0 + 1) 0 7 from there_box (l := encV svc0) h4) Tryz.svcSize (all_oneCell_toArray (encV_ones (s := svc0) rfl)) ?_
   have hrs := World.rangeAt_setCells_same wr (b0 + 1) 0 (encV svc0) (there_box h4)
   have hk5 := keeps_setCells (b0 + 1) (encV svc0) 0 wr
   have HE5 := hide (Keeps.ext (HX.out.trans HY.out) hk5 (fun q hq => by rw [HB0.out]; omega))
   generalize wr.setCells (b0 + 1) 0 (encV svc0) = W5 at hrs HE5 ⊢
   have HRG := hide hrs
   clear hrs hk5 h4
   refine wpList_nil ?_
   simp only [Act.put]
   go_wp2_with (fail)
   (try simp only [Exit.inBlock, Exit.then])
   refine bodyPost_ret (results_cell_mid rfl _ _ (b0 + 1) 0 (encV svc0) dv rfl HRG.out hd1 hd2 Tryz.svcSize) rfl ?_
   exact ⟨by rw [HFS.out]; rfl, HE5.out⟩
end Go.Proofs.YtmpciohmljpncaaGreatDoor
namespace Go.Proofs.YtmpciohmljpncaaGreatDoor
open Go.ChangeShapes Go.WideShapes Go.ChangeAt Go.RowKit Go.Lib Go.Shelf
theorem wpList_app1 {ops : Array Oper} {rest : List Oper} {o : Oper} {a : Act} {w : World} {Q : Exit → Act → World → Prop} (hgd : o.guard = none) (s x : Operand) (t e : TypeId) (ho : o.op = .call { callee := .builtin .append, args := #[s, x], argTypes := #[t, t] })
  (ht : Tryz.prog.underlying t = some (.slice e)) {size bytes : Nat} (hinfo : (Tryz.prog.info? e).map (fun i => (i.size, i.bytes, i.zero.map fun z => z.cells.size)) = some (size, bytes, some size)) (hsz : 0 < size) (hby : bytes ≤ 1000)
  (base : Nat) (v : Value) (n : Nat) (xs : List Value) (hv : a.eval s = v) (hown : w.ownsRow base e size v n xs) (cells : List Value) (hc : cells.length = size) (h1 : ∀ u ∈ cells, u.oneCell' = true) (hx : a.eval x = .slice (some ⟨w.heap.size, 0, none⟩) 1 1) (hn : n < 1000000) (hbase : base ≤ w.heap.size)
  (h : ∀ v' w', w'.ownsRow base e size v' (n + 1) (xs ++ cells) → Keeps (fun q => v.ownBlock = some q) w w' → (v'.ownBlock = v.ownBlock ∨ ∃ g, v'.ownBlock = some g ∧ w.heap.size ≤ g) → wpList Tryz.prog ops Q rest (a.put o.dst v') w') :
  wpList Tryz.prog ops Q (o :: rest) a (w.alloc (.cells cells.toArray e)) := by
 obtain ⟨i, z, hi0, hi1, hi2, hi3, hi4⟩ := info_partsN hinfo
 have hxa : Ext w (w.alloc (.cells cells.toArray e)) := (Below.refl _ w).alloc (Nat.le_refl _) _
 have hbz := heap_alloc_new w (.cells cells.toArray e)
 have hm : (n + 1) * bytes ≤ 1000000 * 1000 := Nat.mul_le_mul hn hby
 refine wpList_append_place hgd s x t ho base e i z size bytes ht hi0 hi1 hi2 hi3 hi4 hsz v n xs hv (owns_ext hown hxa) ⟨w.heap.size, 0, none⟩ 1 1 cells hx (by rw [hc, Nat.one_mul]) (fun j u hu => ?_) h1 (by decide) (by unfold maxLen; omega) (by omega) (Nat.le_trans hbase hxa.size) ?_
 ·rw [add_cell]
  exact cell_box hbz j u hu
 ·intro v' w' r1 r2 r3
  refine h v' w' r1 ((Keeps.of_ext hxa).trans (Keeps.of_grown r2 fun q h => h)) ?_
  rcases r3 with r3 | r3
  ·exact .inl r3
  ·exact .inr ⟨_, r3, by simp⟩
theorem foldl_set (l : List Value) (Z : Array Value) (h : Z.size = l.length) : List.foldl (fun (cs : Array Value) (x : Value × Nat) => cs.setIfInBounds x.2 x.1) Z l.zipIdx = l.toArray := by
 have key : ∀ (l : List Value) (k : Nat) (Z : Array Value), (∀ j, j < k + l.length → j < Z.size) → ∀ j : Nat, (List.foldl (fun (cs : Array Value) (x : Value × Nat) => cs.setIfInBounds x.2 x.1) Z (l.zipIdx k))[j]? = if k ≤ j ∧ j < k + l.length then l[j - k]? else Z[j]? := by
  intro l
  induction l with
  | nil => intro k Z _ j; simp; intro h1 h2; omega
  | cons v l ih =>
   intro k Z hz j
   rw [List.zipIdx_cons, List.foldl_cons, ih (k + 1) _ (fun j hj => by rw [Array.size_setIfInBounds]; exact hz j (by simp; omega)) j]
   by_cases h1 : j = k
   ·subst h1
    rw [if_neg (by omega), if_pos (by simp), Nat.sub_self]
    have := hz j (by simp)
    simp [this]
   ·rw [Array.getElem?_setIfInBounds_ne (by omega)]
    by_cases h2 : k + 1 ≤ j ∧ j < k + 1 + l.length
    ·rw [if_pos h2, if_pos (by simp; omega), show j - k = (j - (k + 1)) + 1 by omega]
     rfl
    ·rw [if_neg h2, if_neg (by simp; omega)]
 apply Array.ext_getElem?
 intro j
 rw [key l 0 Z (fun j hj => by omega) j]
 by_cases hj : j < l.length
 ·rw [if_pos (by omega)]
  simp
 ·rw [if_neg (by omega), Array.getElem?_eq_none (by omega), Array.getElem?_eq_none (by simpa using hj)]
theorem gInfoR : (Tryz.prog.info? 57).map (fun i => (i.size, i.bytes, i.zero.map fun z => z.cells.size)) = some (19, 232, some 19) := by kernel_rfl
theorem gInfoI : (Tryz.prog.info? 3).map (fun i => (i.size, i.bytes, i.zero.map fun z => z.cells.size)) = some (1, 8, some 1) := by kernel_rfl
theorem onR_snoc (R : List RuleD) (p : ByteArray) (k : Nat) (hk : k < R.length) : onR (R.take (k + 1)) p = onR (R.take k) p ++ if onB (bl R[k].path) R[k].ex (bl p) = true then [R[k]] else [] := by
 unfold onR
 rw [take_snoc R k hk, List.filter_append]
 congr 1
 simp only [List.filter_cons, List.filter_nil]
theorem onR_len (R : List RuleD) (p : ByteArray) : (onR R p).length ≤ R.length := List.length_filter_le _ _
theorem rule_row {w : World} {a : Option Addr} {n cap : Nat} {xs : List RuleD} (h : Rules w (.slice a n cap) xs) (i : Nat) (hi : i < xs.length) :
  ∃ b off, a = some ⟨b, off, none⟩ ∧ b < w.heap.size ∧ w.rangeAt b (off + i * 19) (encR xs[i]) := by
 obtain ⟨b, off, e, h1, h2⟩ := rules_at h i hi
 exact ⟨b, off, e, h1, h2⟩
theorem allocR (w : World) : (Instr.alloc 57 true (.tuple #[])).run Tryz.prog w = .ok (.pointer (some ⟨w.heap.size, 0, none⟩)) (w.alloc (.cells #[.string ⟨#[]⟩, .bool false, .slice none 0 0, .slice none 0 0, .int .i64 0, .int .i64 0, .int .i64 0, .int .i64 0, .string ⟨#[]⟩, .slice none 0 0, .slice none 0 0, .int .i64 0, .int .i64 0, .int .i64 0, .int .i64 0, .int .i64 0, .int .i64 0, .int .i64 0, .int .i64 0] 57)) := by kernel_rfl
set_option maxRecDepth 100000 in
set_option maxHeartbeats 8000000 in
theorem rules33_any (c : ConfD) (p : ByteArray) (w : World) (hr : Rules w c.rv c.R) (hok : ∀ r ∈ c.R, RuleOk w r) (hp : SzB p) (hm : MaxV w) (hl : c.R.length ≤ 1000) :
  Calls Tryz.prog 134 #[c.val, .string p] w fun e w' => ∃ v', e = .returned v' ∧ w'.ownsRow w.heap.size 57 19 v' (onR c.R p).length ((onR c.R p).flatMap encR) ∧ Ext w w' := by
 obtain ⟨dd, hd1, hd2⟩ := Tryz.ruleDesc
 obtain ⟨hl', aR, cR, hvR⟩ := hr.shape
 have hx : Ext w (w.alloc (.cells (encC c).toArray 30)) := (Below.refl _ _).alloc (Nat.le_refl _) _
 have hb1 : (w.alloc (.cells (encC c).toArray 30)).cell? ⟨w.heap.size, 2, none⟩ = some (.slice aR c.R.length cR) := by rw [← hvR]; simp [encC]
 rw [hvR] at hr
 have HR := hide hr
 have HOK := hide hok
 have HP := hide hp
 have HM := hide hm
 have HL := hide hl
 clear hr hok hp hm hl hvR
 generalize c.R = R at *
 show Calls Tryz.prog 134 #[.agg (encC c).toArray, .string p] w _
 go_enter Tryz.func134, Tryz.ntmps134
 go_upto_region 1 with (fail)
 show Code.wp _ _ _ _ (w.alloc (.cells (encC c).toArray 30))
 generalize w.alloc (.cells (encC c).toArray 30) = W at hx hb1 ⊢
 have HX := hide hx
 clear hx
 go_wp2_with fail
 clear hb1
 go_loopw [5, 11] (fun v5 v11 wr => ∃ k : Nat, k ≤ R.length ∧ v11 = .int .i64 k ∧ wr.ownsRow w.heap.size 57 19 v5 (onR (R.take k) p).length ((onR (R.take k) p).flatMap encR) ∧ Ext w wr) (fun _ k _ => R.length - (intOf k).toNat)
 case atStart => exact ⟨0, Nat.zero_le _, rfl, World.ownsRow_nil _ _ _ _, HX.out⟩
 case round =>
  obtain ⟨k, hk, rfl, hown, hext⟩ := hrel
  obtain ⟨xa, xc, rfl⟩ := owns_shape hown
  have HOW := hide hown
  have HY := hide hext
  clear hown hext
  by_cases hlt : k < R.length
  ·have hltz : (k : Int) < R.length := by omega
   have hwk : IntKind.i64.wrap ((k : Int) + 1) = ((k + 1 : Nat) : Int) := by have := HL.out; rw [IntKind.wrap_i64]; omega
   have hokr := (HOK.out R[k] (List.getElem_mem hlt)).ext HY.out
   have hsn := onR_snoc R p k hlt
   have hln := Nat.le_trans (onR_len (R.take k) p) (List.length_take_le k R)
   obtain ⟨b, off, rfl, hbb, hrg⟩ := rule_row (HR.out.ext HY.out) k hlt
   generalize R[k] = r at hokr hsn hrg
   have HONE := hide (encR_one' r hokr)
   obtain ⟨_, ar, cr, hvr⟩ := hokr.1.shape
   generalize onR (R.take k) p = O at *
   go_upto_region 4 with (fail)
   refine wp_region_lit ?_
   refine wpList_plain rfl fun Kq hKq => ?_
   go_simp
   refine hKq _ _ ?_
   refine wpList_load_mid rfl 57 (.tmp 13) rfl b (off + k * 19) rfl (encR r) dd hrg hd1 hd2 Tryz.ruleSize ?_
   refine wpList_box rfl 57 rfl rfl (.tmp 7) (.tmp 14) rfl (encR r) _ allocR rfl rfl rfl Tryz.ruleSize HONE.out fun w2 hb2 E2 => ?_
   refine wpList_nil ?_
   simp only [Act.put, List.setIfInBounds_toArray, List.set_cons_succ, List.set_cons_zero]
   have hHg : wr.heap.size < w2.heap.size := (Array.getElem?_eq_some_iff.1 hb2).1
   obtain ⟨g, hg⟩ : ∃ g, wr.heap.size = g := ⟨_, rfl⟩
   rw [hg] at hb2 hHg ⊢
   have d0 : w2.cell? ⟨g, 0, none⟩ = some (.string r.path) := cell_box hb2 0 _ rfl
   have d1 : w2.cell? ⟨g, 1, none⟩ = some (.bool r.ex) := cell_box hb2 1 _ rfl
   have d2 : w2.cell? ⟨g, 2, none⟩ = some (.slice ar r.H.length cr) := by rw [← hvr]; exact cell_box hb2 2 _ rfl
   have HB2 := hide hb2
   have hon := on_any r.path p r.ex (.slice ar r.H.length cr) w2 HP.out (HM.out.ext (HY.out.trans E2)) ⟨_, _, _, rfl⟩
   obtain ⟨f, hf⟩ : ∃ f, onB (bl r.path) r.ex (bl p) = f := ⟨_, rfl⟩
   rw [hf] at hon hsn
   have HON := hide hon
   have HSN := hide hsn
   have HY2 := hide (HY.out.trans E2)
   have HO2 := hide (owns_ext HOW.out E2)
   have HLN := hide hln
   clear hb2 E2 hrg hg hokr hvr hf hon hsn hln HOW
   go_wp2_with fail
   refine HON.out.mono ?_
   rintro e w3 ⟨rfl, E3⟩
   have HY3 := hide (HY2.out.trans E3)
   have HO3 := hide (owns_ext HO2.out E3)
   have hb3 := (E3.block g hHg).trans HB2.out
   clear E3 HON d0 d1 d2
   cases f with
   | false =>
    have hs := HSN.out
    rw [if_neg (by simp), List.append_nil] at hs
    have HS := hide hs
    clear hs hb3
    go_wp2
    go_roundw
    case rel => exact ⟨k + 1, hlt, by go_num, by rw [HS.out]; exact HO3.out, HY3.out⟩
    case measure => simp [intOf]; omega
   | true =>
    have hs := HSN.out
    rw [if_pos rfl] at hs
    have HS := hide hs
    clear hs
    go_upto_region 6 with (fail)
    refine wp_region_lit ?_
    refine wpList_plain rfl fun Kq hKq => ?_
    go_simp
    refine hKq _ _ ?_
    refine wpList_load_mid rfl 57 (.tmp 7) rfl g 0 rfl (encR r) dd (range_box hb3) hd1 hd2 Tryz.ruleSize ?_
    refine wpList_plain rfl fun Kq hKq => ?_
    go_simp
    refine hKq _ _ ?_
    rw [foldl_set]
    rotate_left
    ·rfl
    show wpList _ _ _ _ _ (w3.alloc (.cells (encR r).toArray 57))
    refine wpList_app1 rfl (.tmp 19) (.tmp 21) _ 57 rfl Tryz.underlying25 gInfoR (by decide) (by decide) w.heap.size (.slice xa O.length xc) O.length (O.flatMap encR) rfl HO3.out (encR r) (encR_len r) HONE.out rfl (by have := HLN.out; have := HL.out; omega) HY3.out.size ?_
    intro v' w4 hown4 hk4 _
    have HY4 := hide (Keeps.ext HY3.out hk4 (fun q hq => (HO3.out.lt q hq).1))
    have HO4 := hide (show w4.ownsRow w.heap.size 57 19 v' (O ++ [r]).length ((O ++ [r]).flatMap encR) by simpa using hown4)
    clear hown4 hk4 hb3
    refine wpList_plain rfl fun Kq hKq => ?_
    go_simp
    refine hKq _ _ ?_
    refine wpList_nil ?_
    go_wp2
    go_roundw
    case rel => exact ⟨k + 1, hlt, by go_num, by rw [HS.out]; exact HO4.out, HY4.out⟩
    case measure => simp [intOf]; omega
  ·obtain rfl : k = R.length := by omega
   rw [List.take_length] at HOW ⊢
   go_wp2
   go_ret
   exact ⟨_, rfl, HOW.out, HY.out⟩
end Go.Proofs.YtmpciohmljpncaaGreatDoor
