/- Merged texts (SnP, SnQ). -/
import Derived.Test.YtkhebanpplokdaaGreatDoorZgn
namespace Go.Proofs.YtkhebanpplokdaaGreatDoor
open Go.ChangeShapes Go.WideShapes Go.ChangeAt Go.RowKit Go.Lib Go.Shelf
structure SvcD where
  id : Int
  kv : Value
  K : List ByteArray
  work : Int
  slots : Int
  queue : Int
  bal : Int
  warm : Int
structure EndD where
  id : Int
  svc : Int
  zone : Int
structure RateD where
  lim : Int
  win : Int
  sl : Int
structure ConfD where
  sv : Value
  S : List SvcD
  ev : Value
  E : List EndD
  rv : Value
  R : List RuleD
  tv : Value
  T : List RateD
  w0 : Int
  w1 : Int
  w2 : Int
  w3 : Int
  w4 : Int
  w5 : Int
  w6 : Int
  panic : Int
  low : Int
  high : Int
  wait : Int
  hop : Int
  life : Int
  purse : Int
  horizon : Int
  sample : Int
def encV (s : SvcD) : List Value := [.int .i64 s.id, s.kv, .int .i64 s.work, .int .i64 s.slots, .int .i64 s.queue, .int .i64 s.bal, .int .i64 s.warm]
def SvcD.val (s : SvcD) : Value := .agg #[.int .i64 s.id, s.kv, .int .i64 s.work, .int .i64 s.slots, .int .i64 s.queue, .int .i64 s.bal, .int .i64 s.warm]
def encE (e : EndD) : List Value := [.int .i64 e.id, .int .i64 e.svc, .int .i64 e.zone]
def EndD.val (e : EndD) : Value := .agg #[.int .i64 e.id, .int .i64 e.svc, .int .i64 e.zone]
def encT (e : RateD) : List Value := [.int .i64 e.lim, .int .i64 e.win, .int .i64 e.sl]
def RateD.val (e : RateD) : Value := .agg #[.int .i64 e.lim, .int .i64 e.win, .int .i64 e.sl]
def encC (c : ConfD) : List Value := [c.sv, c.ev, c.rv, c.tv, .int .i64 c.w0, .int .i64 c.w1, .int .i64 c.w2, .int .i64 c.w3, .int .i64 c.w4, .int .i64 c.w5, .int .i64 c.w6, .int .i64 c.panic, .int .i64 c.low, .int .i64 c.high, .int .i64 c.wait, .int .i64 c.hop, .int .i64 c.life, .int .i64 c.purse, .int .i64 c.horizon, .int .i64 c.sample]
def ConfD.val (c : ConfD) : Value := .agg #[c.sv, c.ev, c.rv, c.tv, .int .i64 c.w0, .int .i64 c.w1, .int .i64 c.w2, .int .i64 c.w3, .int .i64 c.w4, .int .i64 c.w5, .int .i64 c.w6, .int .i64 c.panic, .int .i64 c.low, .int .i64 c.high, .int .i64 c.wait, .int .i64 c.hop, .int .i64 c.life, .int .i64 c.purse, .int .i64 c.horizon, .int .i64 c.sample]
theorem encV_len (s : SvcD) : (encV s).length = 7 := rfl
theorem encE_len (s : EndD) : (encE s).length = 3 := rfl
theorem encT_len (s : RateD) : (encT s).length = 3 := rfl
abbrev Svcs := Sl encV 7
abbrev Ends := Sl encE 3
abbrev Rates := Sl encT 3
/-- what it says, wherever its lists lie -/
def SvcD.core (s : SvcD) : SvcD := { s with kv := .slice none 0 0 }
def ConfD.core (c : ConfD) : ConfD := { c with sv := .slice none 0 0, S := c.S.map SvcD.core, ev := .slice none 0 0, rv := .slice none 0 0, R := c.R.map RuleD.core, tv := .slice none 0 0 }
def inB (lo hi n : Int) : Bool := decide (lo ≤ n) && decide (n ≤ hi)
theorem inB_in {lo hi n : Int} (h : lo ≤ n ∧ n ≤ hi) : inB lo hi n = true := by
  unfold inB
  rw [decide_eq_true h.1, decide_eq_true h.2]
  rfl
def thereB (S : List SvcD) (id : Int) : Bool := S.any fun x => x.id == id
def svcB (ahead : List SvcD) (s : SvcD) : Bool := inB 1 10 s.id && !thereB ahead s.id && decide (s.K.length ≤ 4) && s.K.all (fun p => isPath (bl p)) && inB 1 100 s.work && inB 1 20 s.slots && inB 1 50 s.queue && inB 1 3 s.bal && inB 0 100 s.warm
def endB (ahead : List EndD) (S : List SvcD) (e : EndD) : Bool := inB 1 40 e.id && !(ahead.any fun x => x.id == e.id) && thereB S e.svc && inB 1 4 e.zone
def leadB (S : List SvcD) (r : RuleD) : Bool := (r.P.all fun p => thereB S p.1) && (r.mi == 0 || thereB S r.mi)
def rateB (x : RateD) : Bool := inB 1 1000 x.lim && inB 1 1000 x.win && inB 1 x.lim x.sl
def watchB (c : ConfD) : Bool := inB 1 100 c.w0 && inB 1 10000 c.w1 && inB 0 100 c.w2 && inB 0 10000 c.w3 && inB 0 100 c.w4 && inB 1 10000 c.w5 && inB c.w5 10000 c.w6
def numB (c : ConfD) : Bool := inB 0 100 c.panic && inB 1 c.high c.low && decide (c.high ≤ 100) && inB 0 50 c.wait && inB 1 100 c.hop && inB 1 10000 c.life && inB 0 64 c.purse && inB c.life 40000 c.horizon && inB 0 100 c.sample
/-- is it so of each element, behind those ahead of it? -/
def allAt {α : Type} (f : List α → α → Bool) : List α → List α → Bool
  | _, [] => true
  | a, x :: l => f a x && allAt f (a ++ [x]) l
theorem allAt_take {α : Type} (f : List α → α → Bool) (l : List α) (k : Nat) (h : k < l.length) : allAt f (l.take k) (l.drop k) = (f (l.take k) l[k] && allAt f (l.take (k + 1)) (l.drop (k + 1))) := by
  rw [List.drop_eq_getElem_cons h, take_snoc l k h]
  rfl
theorem allAt_spec {α : Type} (f : List α → α → Bool) : ∀ (l a : List α), allAt f a l = true ↔ ∀ k (h : k < l.length), f (a ++ l.take k) l[k] = true
  | [], a => ⟨fun _ k h => absurd h (Nat.not_lt_zero _), fun _ => rfl⟩
  | x :: l, a => by
    unfold allAt
    rw [Bool.and_eq_true, allAt_spec f l]
    constructor
    · rintro ⟨h1, h2⟩ k hk
      cases k with
      | zero => simpa using h1
      | succ k => simpa using h2 k (by simpa using hk)
    · intro h
      refine ⟨?_, fun k hk => ?_⟩
      · have := h 0 (by simp)
        simpa only [List.take_zero, List.append_nil, List.getElem_cons_zero] using this
      · have := h (k + 1) (by simpa using hk)
        simpa only [List.take_succ_cons, List.append_assoc, List.singleton_append, List.getElem_cons_succ] using this
/-- how a configuration is wrong -/
def chkC (c : ConfD) : Int :=
  if 10 < c.S.length ∨ 40 < c.E.length ∨ 4 < c.T.length then 2
  else if allAt svcB [] c.S = false then 13
  else if allAt (fun a e => endB a c.S e) [] c.E = false then 14
  else if nerr c.R c.T.length ≠ 0 then nerr c.R c.T.length
  else if c.R.all (leadB c.S) = false then 13
  else if c.T.all rateB = false then 15
  else if watchB c = false then 8
  else if numB c = false then 8 else 0
/-- the lists read -/
def ConfOk (w : World) (c : ConfD) : Prop := Svcs w c.sv c.S ∧ (∀ s ∈ c.S, Strs w s.kv s.K) ∧ Ends w c.ev c.E ∧ Rules w c.rv c.R ∧ (∀ r ∈ c.R, RuleOk w r) ∧ Rates w c.tv c.T
theorem ConfOk.ext {w w' : World} {c : ConfD} (h : ConfOk w c) (e : Ext w w') : ConfOk w' c := ⟨h.1.ext e, fun s hs => (h.2.1 s hs).ext e, h.2.2.1.ext e, h.2.2.2.1.ext e, fun r hr => (h.2.2.2.2.1 r hr).ext e, h.2.2.2.2.2.ext e⟩
def SvcFit (s : SvcD) : Prop := I64 s.id ∧ I64 s.work ∧ I64 s.slots ∧ I64 s.queue ∧ I64 s.bal ∧ I64 s.warm ∧ ∀ p ∈ s.K, SzB p
def EndFit (e : EndD) : Prop := I64 e.id ∧ I64 e.svc ∧ I64 e.zone
/-- what no configuration breaks -/
def ConfFit (c : ConfD) : Prop := (∀ s ∈ c.S, SvcFit s) ∧ (∀ e ∈ c.E, EndFit e) ∧ (∀ r ∈ c.R, RuleFit r ∧ I64 r.mi) ∧ c.S.length ≤ 1000 ∧ c.E.length ≤ 1000 ∧ c.R.length ≤ 1000 ∧ c.T.length ≤ 1000
/-! ## made of numbers -/
def pk (L : List Int) (i : Nat) : Nat := match L[i]? with | some x => arN x 1000000 | none => 0
theorem arN_lt (x : Int) : arN x 1000000 < 1000000 := by
  have := around_bd x 1000000 (by omega)
  unfold arN
  omega
theorem pk_lt (L : List Int) (i : Nat) : pk L i < 1000000 := by
  unfold pk
  split
  · exact arN_lt _
  · omega
def kidP (d : Nat) : ByteArray := if d = 0 then ⟨#[47, 97]⟩ else if d = 1 then ⟨#[47, 98]⟩ else if d = 2 then ⟨#[47, 99, 47, 97]⟩ else ⟨#[47, 97, 98]⟩
def kidsN (k i m : Nat) : List ByteArray := (List.range m).map fun j => kidP ((k / 3888 + j + i) % 4)
theorem kidsN_succ (k i m : Nat) : kidsN k i (m + 1) = kidsN k i m ++ [kidP ((k / 3888 + m + i) % 4)] := by simp [kidsN, List.range_succ]
def svcN (L : List Int) (i : Nat) : SvcD := { id := i, kv := .slice none 0 0, K := kidsN (pk L (1 + i)) i (pk L (1 + i) / 1296 % 3), work := 1 + (pk L (1 + i) : Int) % 6, slots := 1 + (pk L (1 + i) : Int) / 6 % 3, queue := 1 + (pk L (1 + i) : Int) / 18 % 6, bal := 1 + (pk L (1 + i) : Int) / 108 % 3, warm := (pk L (1 + i) : Int) / 324 % 4 }
def svcsN (L : List Int) (m : Nat) : List SvcD := (List.range m).map fun i => svcN L (i + 1)
theorem svcsN_succ (L : List Int) (m : Nat) : svcsN L (m + 1) = svcsN L m ++ [svcN L (m + 1)] := by simp [svcsN, List.range_succ]
theorem svcsN_len (L : List Int) (m : Nat) : (svcsN L m).length = m := by simp [svcsN]
def endA (L : List Int) (i : Nat) : EndD := ⟨i, i, 1 + (pk L (1 + i) : Int) / 7 % 2⟩
def endsA (L : List Int) (m : Nat) : List EndD := (List.range m).map fun i => endA L (i + 1)
theorem endsA_succ (L : List Int) (m : Nat) : endsA L (m + 1) = endsA L m ++ [endA L (m + 1)] := by simp [endsA, List.range_succ]
theorem endsA_len (L : List Int) (m : Nat) : (endsA L m).length = m := by simp [endsA]
def endZ (L : List Int) (m i : Nat) : EndD := ⟨i, 1 + (pk L 6 : Int) / 4 % m, 1 + ((pk L 6 : Int) / 16 + i) % 2⟩
/-- the further endpoints, up to the n-th of them -/
def endsZ (L : List Int) (m n : Nat) : List EndD := (List.range n).map fun i => endZ L m (m + 1 + i)
theorem endsZ_succ (L : List Int) (m n : Nat) : endsZ L m (n + 1) = endsZ L m n ++ [endZ L m (m + 1 + n)] := by simp [endsZ, List.range_succ]
theorem endsZ_len (L : List Int) (m n : Nat) : (endsZ L m n).length = n := by simp [endsZ]
/-- parts that lead to the first m services, each once -/
def partsN (m : Int) : List (Int × Int) → List Int → List (Int × Int)
  | [], _ => []
  | p :: ps, had => if had.contains (1 + (p.1 - 1) % m) = true then partsN m ps had else (1 + (p.1 - 1) % m, p.2) :: partsN m ps (had ++ [1 + (p.1 - 1) % m])
def ruleN (m n : Int) (r : RuleD) : RuleD := { r.core with P := partsN m r.P [], mi := if 0 < r.mi then 1 + (r.mi - 1) % m else r.mi, rate := n % 4 / 3 }
/-- the rule for / -/
def lastN (k : Nat) : RuleD := ⟨⟨#[47]⟩, false, .slice none 0 0, [], .slice none 0 0, [(1, 1)], 0, 0, 0, 0, ⟨#[]⟩, .slice none 0 0, [], .slice none 0 0, [], 30, 1 + (k : Int) % 3, (k : Int) / 3 % 4, 0, 1, 2, 2, 0⟩
def numR (L : List Int) : Nat := min 4 (rulesN (L.drop (min L.length 9)))
def rulesC (L : List Int) (m n : Nat) : List RuleD := (List.range n).map fun i => ruleN m ((pk L (9 + 8 * i) : Int) / 3) (genR ((L.drop (min L.length 9)).drop (8 * i)))
theorem rulesC_len (L : List Int) (m n : Nat) : (rulesC L m n).length = n := by simp [rulesC]
def sampleN (d : Nat) : Int := if d = 0 then 100 else if d = 1 then 50 else if d = 2 then 0 else 100
def shareN (d : Nat) : Int := if d = 0 then 50 else if d = 1 then 100 else if d = 2 then 34 else if d = 3 then 0 else 20
def topN (d : Nat) : Int := if d = 0 then 1 else if d = 1 then 2 else if d = 2 then 8 else 3
def svcsM (L : List Int) : Nat := 1 + pk L 0 % 4
def endsM (L : List Int) : Nat := min (7 - svcsM L) (pk L 6 % 4)
/-- the small mesh that is made of numbers -/
def genC (L : List Int) : ConfD :=
  { sv := .slice none 0 0, S := svcsN L (svcsM L), ev := .slice none 0 0, E := endsA L (svcsM L) ++ endsZ L (svcsM L) (endsM L), rv := .slice none 0 0, R := rulesC L (svcsM L) (numR L) ++ [lastN (pk L 7)], tv := .slice none 0 0,
    T := [⟨2 + (pk L 7 : Int) % 9, 10 + (pk L 7 : Int) / 9 % 40, 1 + (pk L 7 : Int) / 360 % 2⟩],
    w0 := 1 + (pk L 8 : Int) % 4, w1 := 5 + (pk L 8 : Int) / 4 % 20, w2 := (pk L 8 : Int) / 80 % 3 * 8, w3 := (pk L 8 : Int) / 240 % 3 * 10, w4 := shareN (pk L 8 / 720 % 5), w5 := 1 + (pk L 8 : Int) / 3600 % 20, w6 := (1 + (pk L 8 : Int) / 3600 % 20) * topN (pk L 8 / 72000 % 4),
    panic := (pk L 0 : Int) / 4 % 3 * 40, low := 1 + (pk L 0 : Int) / 12 % 2, high := 3 + (pk L 0 : Int) / 24 % 8, wait := (pk L 0 : Int) / 192 % 6, hop := 1 + (pk L 0 : Int) / 1152 % 3, life := 60 + (pk L 0 : Int) / 3456 % 200, purse := (pk L 1 : Int) % 7, horizon := 60 + (pk L 0 : Int) / 3456 % 200 + (pk L 1 : Int) / 28 % 300, sample := sampleN (pk L 1 / 7 % 4) }
theorem svcsM_bd (L : List Int) : 1 ≤ svcsM L ∧ svcsM L ≤ 4 := by unfold svcsM; omega
theorem numR_le (L : List Int) : numR L ≤ 4 := Nat.min_le_left _ _
end Go.Proofs.YtkhebanpplokdaaGreatDoor
namespace Go.Proofs.YtkhebanpplokdaaGreatDoor
open Go.ChangeShapes Go.WideShapes Go.ChangeAt Go.RowKit Go.Lib Go.Shelf
def leE (x y : EndD) : Bool := decide (x.id ≤ y.id)
def srtE (l : List EndD) : List EndD := l.mergeSort leE
theorem srtE_perm (l : List EndD) : (srtE l).Perm l := List.mergeSort_perm l leE
theorem srtE_sorted (l : List EndD) : (srtE l).Pairwise (fun x y => x.id ≤ y.id) := by
 have := List.pairwise_mergeSort (le := leE) (fun a b c h1 h2 => by simp [leE] at *; omega) (fun a b => by simp [leE]; omega) l
 exact this.imp fun h => by simpa [leE] using h
/-- rising, each ID once -/
def Asc (l : List EndD) : Prop := l.Pairwise (fun x y => x.id < y.id)
theorem asc_of {l : List EndD} (hs : l.Pairwise (fun x y => x.id ≤ y.id)) (hn : (l.map EndD.id).Nodup) : Asc l := by
 have h2 : l.Pairwise (fun x y => x.id ≠ y.id) := by
  have := List.pairwise_map.1 hn
  exact this
 refine (hs.and h2).imp ?_
 rintro a b ⟨h1, h2⟩
 omega
theorem asc_ext : ∀ {l m : List EndD}, Asc l → Asc m → (∀ x, x ∈ l ↔ x ∈ m) → l = m
 | [], [], _, _, _ => rfl
 | [], y :: m, _, _, h => absurd ((h y).2 (List.mem_cons_self ..)) List.not_mem_nil
 | x :: l, [], _, _, h => absurd ((h x).1 (List.mem_cons_self ..)) List.not_mem_nil
 | x :: l, y :: m, h1, h2, h => by
  obtain ⟨a1, a2⟩ := List.pairwise_cons.1 h1
  obtain ⟨b1, b2⟩ := List.pairwise_cons.1 h2
  have hxy : x = y := by
   rcases List.mem_cons.1 ((h x).1 (List.mem_cons_self ..)) with e | hx
   ·exact e
   ·rcases List.mem_cons.1 ((h y).2 (List.mem_cons_self ..)) with e | hy
    ·exact e.symm
    ·have := a1 y hy
     have := b1 x hx
     omega
  subst hxy
  refine congrArg _ (asc_ext a2 b2 fun z => ⟨fun hz => ?_, fun hz => ?_⟩)
  ·rcases List.mem_cons.1 ((h z).1 (List.mem_cons_of_mem _ hz)) with e | hz'
   ·subst e
    have := a1 z hz
    omega
   ·exact hz'
  ·rcases List.mem_cons.1 ((h z).2 (List.mem_cons_of_mem _ hz)) with e | hz'
   ·subst e
    have := b1 z hz
    omega
   ·exact hz'
theorem srtE_asc {l : List EndD} (hn : (l.map EndD.id).Nodup) : Asc (srtE l) := asc_of (srtE_sorted l) (((srtE_perm l).map _).nodup_iff.2 hn)
theorem srtE_mem {l : List EndD} (x : EndD) : x ∈ srtE l ↔ x ∈ l := (srtE_perm l).mem_iff
theorem nodup_filter {l : List EndD} (p : EndD → Bool) (hn : (l.map EndD.id).Nodup) : ((l.filter p).map EndD.id).Nodup := hn.sublist ((List.filter_sublist (p := p)).map _)
theorem srtE_unique {l s : List EndD} (hp : s.Perm l) (hs : s.Pairwise (fun x y => x.id ≤ y.id)) (hn : (l.map EndD.id).Nodup) : s = srtE l :=
 asc_ext (asc_of hs ((hp.map _).nodup_iff.2 hn)) (srtE_asc hn) fun x => by rw [srtE_mem, hp.mem_iff]
/-- a service's endpoints, by their IDs -/
def endsAt (E : List EndD) (id : Int) : List EndD := srtE (E.filter fun e => e.svc == id)
/-- what a right configuration's endpoints are -/
theorem chkC_ends {c : ConfD} (h : chkC c = 0) : c.S.length ≤ 10 ∧ c.E.length ≤ 40 ∧ c.T.length ≤ 4 ∧ allAt svcB [] c.S = true ∧ allAt (fun a e => endB a c.S e) [] c.E = true ∧ nerr c.R c.T.length = 0 ∧ c.R.all (leadB c.S) = true := by
 unfold chkC at h
 split at h
 ·cases h
 ·rename_i h1
  split at h
  ·cases h
  ·rename_i h2
   split at h
   ·cases h
   ·rename_i h3
    split at h
    ·rename_i h4
     exact absurd h h4
    ·rename_i h4
     split at h
     ·cases h
     ·rename_i h5
      exact ⟨by omega, by omega, by omega, by simpa using h2, by simpa using h3, by omega, by simpa using h5⟩
theorem ends_nodup {E : List EndD} {S : List SvcD} (h : allAt (fun a e => endB a S e) [] E = true) : (E.map EndD.id).Nodup := by
 rw [allAt_spec] at h
 refine List.pairwise_map.2 (List.pairwise_iff_getElem.2 fun i j hi hj hij he => ?_)
 have := h j hj
 simp only [endB, List.nil_append, Bool.and_eq_true, Bool.not_eq_true', List.any_eq_false] at this
 have := this.1.1.2 E[i] (List.mem_take_iff_getElem.2 ⟨i, by omega, rfl⟩)
 simp [he] at this
theorem svcs_nodup {S : List SvcD} (h : allAt svcB [] S = true) : (S.map SvcD.id).Nodup := by
 rw [allAt_spec] at h
 refine List.pairwise_map.2 (List.pairwise_iff_getElem.2 fun i j hi hj hij he => ?_)
 have := h j hj
 simp only [svcB, thereB, List.nil_append, Bool.and_eq_true, Bool.not_eq_true', List.any_eq_false] at this
 have := this.1.1.1.1.1.1.1.2 S[i] (List.mem_take_iff_getElem.2 ⟨i, by omega, rfl⟩)
 simp [he] at this
theorem svcs_in {S : List SvcD} (h : allAt svcB [] S = true) {s : SvcD} (hs : s ∈ S) : 1 ≤ s.id ∧ s.id ≤ 10 := by
 rw [allAt_spec] at h
 obtain ⟨k, hk, rfl⟩ := List.getElem_of_mem hs
 have := h k hk
 simp only [svcB, inB, Bool.and_eq_true, decide_eq_true_eq] at this
 exact this.1.1.1.1.1.1.1.1
end Go.Proofs.YtkhebanpplokdaaGreatDoor
