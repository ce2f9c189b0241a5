/- Merged texts (SnP, SnQ). -/
import Derived.Test.YtmpciohmljpncaaGreatDoorZg
namespace Go.Proofs.YtmpciohmljpncaaGreatDoor
open Go.ChangeShapes Go.WideShapes Go.ChangeAt Go.RowKit Go.Lib Go.Shelf
structure SvcD where
  id : Int
  kv : Value
  K : List ByteArray
  work : Int
  slots : Int
  queue : Int
  bal : Int
  warm : Int
structure EndD where
  id : Int
  svc : Int
  zone : Int
structure RateD where
  lim : Int
  win : Int
  sl : Int
structure ConfD where
  sv : Value
  S : List SvcD
  ev : Value
  E : List EndD
  rv : Value
  R : List RuleD
  tv : Value
  T : List RateD
  w0 : Int
  w1 : Int
  w2 : Int
  w3 : Int
  w4 : Int
  w5 : Int
  w6 : Int
  panic : Int
  low : Int
  high : Int
  wait : Int
  hop : Int
  life : Int
  purse : Int
  horizon : Int
  sample : Int
def encV (s : SvcD) : List Value := [.int .i64 s.id, s.kv, .int .i64 s.work, .int .i64 s.slots, .int .i64 s.queue, .int .i64 s.bal, .int .i64 s.warm]
def SvcD.val (s : SvcD) : Value := .agg #[.int .i64 s.id, s.kv, .int .i64 s.work, .int .i64 s.slots, .int .i64 s.queue, .int .i64 s.bal, .int .i64 s.warm]
def encE (e : EndD) : List Value := [.int .i64 e.id, .int .i64 e.svc, .int .i64 e.zone]
def EndD.val (e : EndD) : Value := .agg #[.int .i64 e.id, .int .i64 e.svc, .int .i64 e.zone]
def encT (e : RateD) : List Value := [.int .i64 e.lim, .int .i64 e.win, .int .i64 e.sl]
def RateD.val (e : RateD) : Value := .agg #[.int .i64 e.lim, .int .i64 e.win, .int .i64 e.sl]
def encC (c : ConfD) : List Value := [c.sv, c.ev, c.rv, c.tv, .int .i64 c.w0, .int .i64 c.w1, .int .i64 c.w2, .int .i64 c.w3, .int .i64 c.w4, .int .i64 c.w5, .int .i64 c.w6, .int .i64 c.panic, .int .i64 c.low, .int .i64 c.high, .int .i64 c.wait, .int .i64 c.hop, .int .i64 c.life, .int .i64 c.purse, .int .i64 c.horizon, .int .i64 c.sample]
def ConfD.val (c : ConfD) : Value := .agg #[c.sv, c.ev, c.rv, c.tv, .int .i64 c.w0, .int .i64 c.w1, .int .i64 c.w2, .int .i64 c.w3, .int .i64 c.w4, .int .i64 c.w5, .int .i64 c.w6, .int .i64 c.panic, .int .i64 c.low, .int .i64 c.high, .int .i64 c.wait, .int .i64 c.hop, .int .i64 c.life, .int .i64 c.purse, .int .i64 c.horizon, .int .i64 c.sample]
theorem encV_len (s : SvcD) : (encV s).length = 7 := rfl
theorem encE_len (s : EndD) : (encE s).length = 3 := rfl
theorem encT_len (s : RateD) : (encT s).length = 3 := rfl
abbrev Svcs := Sl encV 7
abbrev Ends := Sl encE 3
abbrev Rates := Sl encT 3
/-- what it says, wherever its lists lie -/
def SvcD.core (s : SvcD) : SvcD := { s with kv := .slice none 0 0 }
def ConfD.core (c : ConfD) : ConfD := { c with sv := .slice none 0 0, S := c.S.map SvcD.core, ev := .slice none 0 0, rv := .slice none 0 0, R := c.R.map RuleD.core, tv := .slice none 0 0 }
def inB (lo hi n : Int) : Bool := decide (lo ≤ n) && decide (n ≤ hi)
theorem inB_in {lo hi n : Int} (h : lo ≤ n ∧ n ≤ hi) : inB lo hi n = true := by
  unfold inB
  rw [decide_eq_true h.1, decide_eq_true h.2]
  rfl
def thereB (S : List SvcD) (id : Int) : Bool := S.any fun x => x.id == id
def svcB (ahead : List SvcD) (s : SvcD) : Bool := inB 1 10 s.id && !thereB ahead s.id && decide (s.K.length ≤ 4) && s.K.all (fun p => isPath (bl p)) && inB 1 100 s.work && inB 1 20 s.slots && inB 1 50 s.queue && inB 1 3 s.bal && inB 0 100 s.warm
def endB (ahead : List EndD) (S : List SvcD) (e : EndD) : Bool := inB 1 40 e.id && !(ahead.any fun x => x.id == e.id) && thereB S e.svc && inB 1 4 e.zone
def leadB (S : List SvcD) (r : RuleD) : Bool := (r.P.all fun p => thereB S p.1) && (r.mi == 0 || thereB S r.mi)
def rateB (x : RateD) : Bool := inB 1 1000 x.lim && inB 1 1000 x.win && inB 1 x.lim x.sl
def watchB (c : ConfD) : Bool := inB 1 100 c.w0 && inB 1 10000 c.w1 && inB 0 100 c.w2 && inB 0 10000 c.w3 && inB 0 100 c.w4 && inB 1 10000 c.w5 && inB c.w5 10000 c.w6
def numB (c : ConfD) : Bool := inB 0 100 c.panic && inB 1 c.high c.low && decide (c.high ≤ 100) && inB 0 50 c.wait && inB 1 100 c.hop && inB 1 10000 c.life && inB 0 64 c.purse && inB c.life 40000 c.horizon && inB 0 100 c.sample
/-- is it so of each element, behind those ahead of it? -/
def allAt {α : Type} (f : List α → α → Bool) : List α → List α → Bool
  | _, [] => true
  | a, x :: l => f a x && allAt f (a ++ [x]) l
theorem allAt_spec {α : Type} (f : List α → α → Bool) : ∀ (l a : List α), allAt f a l = true ↔ ∀ k (h : k < l.length), f (a ++ l.take k) l[k] = true
  | [], a => ⟨fun _ k h => absurd h (Nat.not_lt_zero _), fun _ => rfl⟩
  | x :: l, a => by
    unfold allAt
    rw [Bool.and_eq_true, allAt_spec f l]
    constructor
    · rintro ⟨h1, h2⟩ k hk
      cases k with
      | zero => simpa using h1
      | succ k => simpa using h2 k (by simpa using hk)
    · intro h
      refine ⟨?_, fun k hk => ?_⟩
      · have := h 0 (by simp)
        simpa only [List.take_zero, List.append_nil, List.getElem_cons_zero] using this
      · have := h (k + 1) (by simpa using hk)
        simpa only [List.take_succ_cons, List.append_assoc, List.singleton_append, List.getElem_cons_succ] using this
/-- how a configuration is wrong -/
def chkC (c : ConfD) : Int :=
  if 10 < c.S.length ∨ 40 < c.E.length ∨ 4 < c.T.length then 2
  else if allAt svcB [] c.S = false then 13
  else if allAt (fun a e => endB a c.S e) [] c.E = false then 14
  else if nerr c.R c.T.length ≠ 0 then nerr c.R c.T.length
  else if c.R.all (leadB c.S) = false then 13
  else if c.T.all rateB = false then 15
  else if watchB c = false then 8
  else if numB c = false then 8 else 0
/-- the lists read -/
def ConfOk (w : World) (c : ConfD) : Prop := Svcs w c.sv c.S ∧ (∀ s ∈ c.S, Strs w s.kv s.K) ∧ Ends w c.ev c.E ∧ Rules w c.rv c.R ∧ (∀ r ∈ c.R, RuleOk w r) ∧ Rates w c.tv c.T
theorem ConfOk.ext {w w' : World} {c : ConfD} (h : ConfOk w c) (e : Ext w w') : ConfOk w' c := ⟨h.1.ext e, fun s hs => (h.2.1 s hs).ext e, h.2.2.1.ext e, h.2.2.2.1.ext e, fun r hr => (h.2.2.2.2.1 r hr).ext e, h.2.2.2.2.2.ext e⟩
def SvcFit (s : SvcD) : Prop := I64 s.id ∧ I64 s.work ∧ I64 s.slots ∧ I64 s.queue ∧ I64 s.bal ∧ I64 s.warm ∧ ∀ p ∈ s.K, SzB p
def EndFit (e : EndD) : Prop := I64 e.id ∧ I64 e.svc ∧ I64 e.zone
/-- what no configuration breaks -/
def ConfFit (c : ConfD) : Prop := (∀ s ∈ c.S, SvcFit s) ∧ (∀ e ∈ c.E, EndFit e) ∧ (∀ r ∈ c.R, RuleFit r ∧ I64 r.mi) ∧ c.S.length ≤ 1000 ∧ c.E.length ≤ 1000 ∧ c.R.length ≤ 1000 ∧ c.T.length ≤ 1000
/-! ## made of numbers -/
def pk (L : List Int) (i : Nat) : Nat := match L[i]? with | some x => arN x 1000000 | none => 0
theorem arN_lt (x : Int) : arN x 1000000 < 1000000 := by
  have := around_bd x 1000000 (by omega)
  unfold arN
  omega
theorem pk_lt (L : List Int) (i : Nat) : pk L i < 1000000 := by
  unfold pk
  split
  · exact arN_lt _
  · omega
def kidP (d : Nat) : ByteArray := if d = 0 then ⟨#[47, 97]⟩ else if d = 1 then ⟨#[47, 98]⟩ else if d = 2 then ⟨#[47, 99, 47, 97]⟩ else ⟨#[47, 97, 98]⟩
def kidsN (k i m : Nat) : List ByteArray := (List.range m).map fun j => kidP ((k / 3888 + j + i) % 4)
theorem kidsN_succ (k i m : Nat) : kidsN k i (m + 1) = kidsN k i m ++ [kidP ((k / 3888 + m + i) % 4)] := by simp [kidsN, List.range_succ]
def svcN (L : List Int) (i : Nat) : SvcD := { id := i, kv := .slice none 0 0, K := kidsN (pk L (1 + i)) i (pk L (1 + i) / 1296 % 3), work := 1 + (pk L (1 + i) : Int) % 6, slots := 1 + (pk L (1 + i) : Int) / 6 % 3, queue := 1 + (pk L (1 + i) : Int) / 18 % 6, bal := 1 + (pk L (1 + i) : Int) / 108 % 3, warm := (pk L (1 + i) : Int) / 324 % 4 }
def svcsN (L : List Int) (m : Nat) : List SvcD := (List.range m).map fun i => svcN L (i + 1)
theorem svcsN_succ (L : List Int) (m : Nat) : svcsN L (m + 1) = svcsN L m ++ [svcN L (m + 1)] := by simp [svcsN, List.range_succ]
theorem svcsN_len (L : List Int) (m : Nat) : (svcsN L m).length = m := by simp [svcsN]
def endA (L : List Int) (i : Nat) : EndD := ⟨i, i, 1 + (pk L (1 + i) : Int) / 7 % 2⟩
def endsA (L : List Int) (m : Nat) : List EndD := (List.range m).map fun i => endA L (i + 1)
theorem endsA_succ (L : List Int) (m : Nat) : endsA L (m + 1) = endsA L m ++ [endA L (m + 1)] := by simp [endsA, List.range_succ]
theorem endsA_len (L : List Int) (m : Nat) : (endsA L m).length = m := by simp [endsA]
def endZ (L : List Int) (m i : Nat) : EndD := ⟨i, 1 + (pk L 6 : Int) / 4 % m, 1 + ((pk L 6 : Int) / 16 + i) % 2⟩
/-- the further endpoints, up to the n-th of them -/
def endsZ (L : List Int) (m n : Nat) : List EndD := (List.range n).map fun i => endZ L m (m + 1 + i)
theorem endsZ_succ (L : List Int) (m n : Nat) : endsZ L m (n + 1) = endsZ L m n ++ [endZ L m (m + 1 + n)] := by simp [endsZ, List.range_succ]
theorem endsZ_len (L : List Int) (m n : Nat) : (endsZ L m n).length = n := by simp [endsZ]
/-- parts that lead to the first m services, each once -/
def partsN (m : Int) : List (Int × Int) → List Int → List (Int × Int)
  | [], _ => []
  | p :: ps, had => if had.contains (1 + (p.1 - 1) % m) = true then partsN m ps had else (1 + (p.1 - 1) % m, p.2) :: partsN m ps (had ++ [1 + (p.1 - 1) % m])
def ruleN (m n : Int) (r : RuleD) : RuleD := { r.core with P := partsN m r.P [], mi := if 0 < r.mi then 1 + (r.mi - 1) % m else r.mi, rate := n % 4 / 3 }
/-- the rule for / -/
def lastN (k : Nat) : RuleD := ⟨⟨#[47]⟩, false, .slice none 0 0, [], .slice none 0 0, [(1, 1)], 0, 0, 0, 0, ⟨#[]⟩, .slice none 0 0, [], .slice none 0 0, [], 30, 1 + (k : Int) % 3, (k : Int) / 3 % 4, 0, 1, 2, 2, 0⟩
def numR (L : List Int) : Nat := min 4 (rulesN (L.drop (min L.length 9)))
def rulesC (L : List Int) (m n : Nat) : List RuleD := (List.range n).map fun i => ruleN m ((pk L (9 + 8 * i) : Int) / 3) (genR ((L.drop (min L.length 9)).drop (8 * i)))
theorem rulesC_succ (L : List Int) (m n : Nat) : rulesC L m (n + 1) = rulesC L m n ++ [ruleN m ((pk L (9 + 8 * n) : Int) / 3) (genR ((L.drop (min L.length 9)).drop (8 * n)))] := by simp [rulesC, List.range_succ]
theorem rulesC_len (L : List Int) (m n : Nat) : (rulesC L m n).length = n := by simp [rulesC]
def sampleN (d : Nat) : Int := if d = 0 then 100 else if d = 1 then 50 else if d = 2 then 0 else 100
def shareN (d : Nat) : Int := if d = 0 then 50 else if d = 1 then 100 else if d = 2 then 34 else if d = 3 then 0 else 20
def topN (d : Nat) : Int := if d = 0 then 1 else if d = 1 then 2 else if d = 2 then 8 else 3
def svcsM (L : List Int) : Nat := 1 + pk L 0 % 4
def endsM (L : List Int) : Nat := min (7 - svcsM L) (pk L 6 % 4)
/-- the small mesh that is made of numbers -/
def genC (L : List Int) : ConfD :=
  { sv := .slice none 0 0, S := svcsN L (svcsM L), ev := .slice none 0 0, E := endsA L (svcsM L) ++ endsZ L (svcsM L) (endsM L), rv := .slice none 0 0, R := rulesC L (svcsM L) (numR L) ++ [lastN (pk L 7)], tv := .slice none 0 0,
    T := [⟨2 + (pk L 7 : Int) % 9, 10 + (pk L 7 : Int) / 9 % 40, 1 + (pk L 7 : Int) / 360 % 2⟩],
    w0 := 1 + (pk L 8 : Int) % 4, w1 := 5 + (pk L 8 : Int) / 4 % 20, w2 := (pk L 8 : Int) / 80 % 3 * 8, w3 := (pk L 8 : Int) / 240 % 3 * 10, w4 := shareN (pk L 8 / 720 % 5), w5 := 1 + (pk L 8 : Int) / 3600 % 20, w6 := (1 + (pk L 8 : Int) / 3600 % 20) * topN (pk L 8 / 72000 % 4),
    panic := (pk L 0 : Int) / 4 % 3 * 40, low := 1 + (pk L 0 : Int) / 12 % 2, high := 3 + (pk L 0 : Int) / 24 % 8, wait := (pk L 0 : Int) / 192 % 6, hop := 1 + (pk L 0 : Int) / 1152 % 3, life := 60 + (pk L 0 : Int) / 3456 % 200, purse := (pk L 1 : Int) % 7, horizon := 60 + (pk L 0 : Int) / 3456 % 200 + (pk L 1 : Int) / 28 % 300, sample := sampleN (pk L 1 / 7 % 4) }
theorem svcsM_bd (L : List Int) : 1 ≤ svcsM L ∧ svcsM L ≤ 4 := by unfold svcsM; omega
theorem there_svcsN (L : List Int) (m : Nat) (id : Int) : thereB (svcsN L m) id = true ↔ 1 ≤ id ∧ id ≤ m := by
  unfold thereB svcsN
  rw [List.any_eq_true]
  constructor
  · rintro ⟨x, hx, he⟩
    obtain ⟨i, hi, rfl⟩ := List.mem_map.1 hx
    have hi' := List.mem_range.1 hi
    have : (svcN L (i + 1)).id = id := by simpa using he
    have e : (svcN L (i + 1)).id = ((i + 1 : Nat) : Int) := rfl
    omega
  · rintro ⟨h1, h2⟩
    refine ⟨svcN L (id.toNat - 1 + 1), List.mem_map.2 ⟨id.toNat - 1, List.mem_range.2 (by omega), rfl⟩, ?_⟩
    have e : (svcN L (id.toNat - 1 + 1)).id = ((id.toNat - 1 + 1 : Nat) : Int) := rfl
    rw [e]
    simp
    omega
theorem kidP_path (d : Nat) : isPath (bl (kidP d)) = true := by
  unfold kidP
  split
  · decide
  · split
    · decide
    · split <;> decide
theorem svcsN_take (L : List Int) (m k : Nat) (h : k ≤ m) : (svcsN L m).take k = svcsN L k := by
  unfold svcsN
  rw [← List.map_take, List.take_range, Nat.min_eq_left h]
theorem svcs_may (L : List Int) (m : Nat) (hm : m ≤ 4) : allAt svcB [] (svcsN L m) = true := by
  rw [allAt_spec]
  intro k hk
  rw [svcsN_len] at hk
  have hn : ¬ thereB (svcsN L k) ((k + 1 : Nat) : Int) = true := by rw [there_svcsN]; omega
  have e : (svcsN L m)[k]'(by rw [svcsN_len]; exact hk) = svcN L (k + 1) := by simp [svcsN]
  have hl : (svcN L (k + 1)).K.length ≤ 4 := by simp [svcN, kidsN]; omega
  have hp : (svcN L (k + 1)).K.all (fun p => isPath (bl p)) = true := by
    rw [List.all_eq_true]
    intro p hp
    obtain ⟨j, -, rfl⟩ := List.mem_map.1 (show p ∈ kidsN _ _ _ from hp)
    exact kidP_path _
  have h1 : thereB (svcsN L k) (svcN L (k + 1)).id = false := Bool.eq_false_iff.2 hn
  rw [List.nil_append, svcsN_take L m k (by omega), e]
  unfold svcB
  rw [h1, hp, decide_eq_true hl]
  have := pk_lt L (1 + (k + 1))
  rw [inB_in (n := (svcN L (k + 1)).id) (by show 1 ≤ ((k + 1 : Nat) : Int) ∧ _ ≤ _; exact ⟨by omega, show ((k + 1 : Nat) : Int) ≤ 10 by omega⟩), inB_in (n := (svcN L (k + 1)).work) (by simp only [svcN]; omega), inB_in (n := (svcN L (k + 1)).slots) (by simp only [svcN]; omega), inB_in (n := (svcN L (k + 1)).queue) (by simp only [svcN]; omega), inB_in (n := (svcN L (k + 1)).bal) (by simp only [svcN]; omega), inB_in (n := (svcN L (k + 1)).warm) (by simp only [svcN]; omega)]
  rfl
/-- the numbers of the endpoints -/
theorem endsC_get (L : List Int) (m n k : Nat) (hk : k < m + n) : (endsA L m ++ endsZ L m n)[k]'(by rw [List.length_append, endsA_len, endsZ_len]; exact hk) = if k < m then endA L (k + 1) else endZ L m (k + 1) := by
  by_cases h : k < m
  · rw [List.getElem_append_left (by rw [endsA_len]; exact h), if_pos h]
    simp [endsA]
  · rw [List.getElem_append_right (by rw [endsA_len]; omega), if_neg h]
    simp only [endsZ, endsA_len, List.getElem_map, List.getElem_range]
    rw [show m + 1 + (k - m) = k + 1 by omega]
theorem endsC_id (L : List Int) (m n k : Nat) (hk : k < m + n) : ((endsA L m ++ endsZ L m n)[k]'(by rw [List.length_append, endsA_len, endsZ_len]; exact hk)).id = ((k + 1 : Nat) : Int) := by
  rw [endsC_get L m n k hk]
  split <;> rfl
theorem ends_may (L : List Int) (m n : Nat) (hm : 1 ≤ m ∧ m ≤ 4) (hn : n ≤ 6) : allAt (fun a e => endB a (svcsN L m) e) [] (endsA L m ++ endsZ L m n) = true := by
  rw [allAt_spec]
  intro k hk
  have hk' : k < m + n := by rw [List.length_append, endsA_len, endsZ_len] at hk; exact hk
  have hid := endsC_id L m n k hk'
  have hnt : (((endsA L m ++ endsZ L m n).take k).any fun x => x.id == ((endsA L m ++ endsZ L m n)[k]).id) = false := by
    rw [Bool.eq_false_iff]
    intro h
    obtain ⟨x, hx, he⟩ := List.any_eq_true.1 h
    obtain ⟨j, hj, rfl⟩ := List.getElem_of_mem hx
    have hjk : j < k := by rw [List.length_take] at hj; omega
    rw [List.getElem_take, endsC_id L m n j (by omega), hid] at he
    have : ((j + 1 : Nat) : Int) = ((k + 1 : Nat) : Int) := by simpa using he
    omega
  have hz := pk_lt L 6
  have h2 : 1 ≤ ((endsA L m ++ endsZ L m n)[k]).svc ∧ ((endsA L m ++ endsZ L m n)[k]).svc ≤ m ∧ 1 ≤ ((endsA L m ++ endsZ L m n)[k]).zone ∧ ((endsA L m ++ endsZ L m n)[k]).zone ≤ 4 := by
    rw [endsC_get L m n k hk']
    split
    · have := pk_lt L (1 + (k + 1))
      simp only [endA]
      omega
    · simp only [endZ]
      have h1 := Int.emod_nonneg ((pk L 6 : Int) / 4) (show (m : Int) ≠ 0 by omega)
      have h2 := Int.emod_lt_of_pos ((pk L 6 : Int) / 4) (show (0 : Int) < m by omega)
      omega
  rw [List.nil_append]
  unfold endB
  rw [hnt, (there_svcsN L m _).2 ⟨h2.1, h2.2.1⟩, inB_in (n := ((endsA L m ++ endsZ L m n)[k]).zone) h2.2.2, inB_in (n := ((endsA L m ++ endsZ L m n)[k]).id) (by rw [hid]; exact ⟨by omega, show ((k + 1 : Nat) : Int) ≤ 40 by omega⟩)]
  rfl
theorem partsN_mem (m : Int) (hm : 1 ≤ m) : ∀ (P : List (Int × Int)) (had : List Int), ∀ p ∈ partsN m P had, 1 ≤ p.1 ∧ p.1 ≤ m
  | [], _, p, h => by cases h
  | q :: P, had, p, h => by
    unfold partsN at h
    have h1 := Int.emod_nonneg (q.1 - 1) (show m ≠ 0 by omega)
    have h2 := Int.emod_lt_of_pos (q.1 - 1) (show 0 < m by omega)
    split at h
    · exact partsN_mem m hm P had p h
    · rcases List.mem_cons.1 h with rfl | h
      · exact ⟨by show 1 ≤ 1 + _; omega, by show 1 + _ ≤ m; omega⟩
      · exact partsN_mem m hm P _ p h
theorem lead_ruleN (L : List Int) (m : Nat) (hm : 1 ≤ m) (n : Int) (r : RuleD) (h0 : 0 ≤ r.mi) : leadB (svcsN L m) (ruleN m n r) = true := by
  unfold leadB
  rw [Bool.and_eq_true]
  constructor
  · rw [List.all_eq_true]
    intro p hp
    have := partsN_mem m (by omega) r.P [] p hp
    exact (there_svcsN L m _).2 this
  · show ((ruleN m n r).mi == 0 || _) = true
    have e : (ruleN m n r).mi = if 0 < r.mi then 1 + (r.mi - 1) % m else r.mi := rfl
    rw [e]
    split
    · rw [Bool.or_eq_true]
      right
      have h1 := Int.emod_nonneg (r.mi - 1) (show (m : Int) ≠ 0 by omega)
      have h2 := Int.emod_lt_of_pos (r.mi - 1) (show (0 : Int) < m by omega)
      exact (there_svcsN L m _).2 ⟨by omega, by omega⟩
    · have : r.mi = 0 := by omega
      rw [this]
      rfl
/-- parts of a rule made of numbers -/
theorem check_partsN (L : List Int) (m : Int) (hm : 1 ≤ m ∧ m ≤ 4) : Sp.check (partsN m (genR L).P []) = 0 := by
  have hk := kN_bd L 3
  rw [genR_P]
  have h1 := Int.emod_nonneg (1 + (kN L 3 : Int) % 4 - 1) (show m ≠ 0 by omega)
  have h2 := Int.emod_lt_of_pos (1 + (kN L 3 : Int) % 4 - 1) (show 0 < m by omega)
  split
  · simp only [partsN]
    have h3 := Int.emod_nonneg (1 + ((kN L 3 : Int) + 1) % 4 - 1) (show m ≠ 0 by omega)
    have h4 := Int.emod_lt_of_pos (1 + ((kN L 3 : Int) + 1) % 4 - 1) (show 0 < m by omega)
    rw [if_neg (by simp)]
    split
    · exact check_one _ _ (by omega) (by omega)
    · rename_i hne
      refine check_two _ _ _ _ (by omega) (by omega) (by omega) (by omega) ?_
      intro e
      apply hne
      simp only [List.nil_append, List.contains_iff_mem, List.mem_singleton]
      exact e
  · simp only [partsN]
    rw [if_neg (by simp)]
    exact check_one _ _ (by omega) (by omega)
theorem genR_mi_bd (L : List Int) : 0 ≤ (genR L).mi ∧ (genR L).mi ≤ 4 := by
  have := kN_bd L 4
  rw [genR_mi]
  split <;> omega
/-- a rule that is right, led elsewhere -/
theorem rchk_ruleN (L : List Int) (m n rates : Int) (hm : 1 ≤ m ∧ m ≤ 4) (_hn : 0 ≤ n) (hr : 1 ≤ rates) : rchk (ruleN m n (genR L)) rates = 0 := by
  have h0 := genR_right L rates (by omega)
  have hmi := genR_mi_bd L
  have hc := check_partsN L m hm
  have e1 := Int.emod_nonneg ((genR L).mi - 1) (show m ≠ 0 by omega)
  have e2 := Int.emod_lt_of_pos ((genR L).mi - 1) (show 0 < m by omega)
  have ho : outB 0 10 (if 0 < (genR L).mi then 1 + ((genR L).mi - 1) % m else (genR L).mi) = false := outB_in (by split <;> omega)
  have hra : outB 0 rates (n % 4 / 3) = false := outB_in (by omega)
  unfold rchk at h0 ⊢
  show (if mchk (bl (genR L).path) (genR L).H ≠ 0 then mchk (bl (genR L).path) (genR L).H else if Sp.check (partsN m (genR L).P []) ≠ 0 then Sp.check (partsN m (genR L).P []) else if outB 0 10 (if 0 < (genR L).mi then 1 + ((genR L).mi - 1) % m else (genR L).mi) = true then 13 else
    if injB (genR L).ab (genR L).de (genR L).ti = true then 16 else if wrchk (genR L).pre (genR L).S (genR L).D ≠ 0 then wrchk (genR L).pre (genR L).S (genR L).D else if polB (genR L).q0 (genR L).q1 (genR L).q2 (genR L).q3 (genR L).q4 (genR L).q5 (genR L).q6 = false then 16 else
    if outB 0 rates (n % 4 / 3) = true then 15 else 0) = 0
  rw [hc, ho, hra]
  generalize mchk (bl (genR L).path) (genR L).H = x1 at *
  generalize Sp.check (genR L).P = x2 at *
  generalize wrchk (genR L).pre (genR L).S (genR L).D = x3 at *
  generalize injB (genR L).ab (genR L).de (genR L).ti = x4 at *
  generalize polB (genR L).q0 (genR L).q1 (genR L).q2 (genR L).q3 (genR L).q4 (genR L).q5 (genR L).q6 = x5 at *
  by_cases a1 : x1 = 0
  · rw [if_neg (by simpa using a1)] at h0 ⊢
    by_cases a2 : x2 = 0
    · rw [if_neg (by simpa using a2)] at h0
      rw [if_neg (by simp), if_neg (by simp)]
      split at h0
      · omega
      · split
        · rename_i h; rw [if_pos h] at h0; omega
        · rename_i h
          rw [if_neg h] at h0
          by_cases a3 : x3 = 0
          · rw [if_neg (by simpa using a3)] at h0 ⊢
            split
            · rename_i h; rw [if_pos h] at h0; omega
            · rfl
          · rw [if_pos a3] at h0; exact absurd h0 a3
    · rw [if_pos a2] at h0; exact absurd h0 a2
  · rw [if_pos a1] at h0; exact absurd h0 a1
theorem rchk_lastN (k : Nat) (rates : Int) (hr : 0 ≤ rates) : rchk (lastN k) rates = 0 := by
  have hp : polB (lastN k).q0 (lastN k).q1 (lastN k).q2 (lastN k).q3 (lastN k).q4 (lastN k).q5 (lastN k).q6 = true := by
    unfold polB
    rw [outB_in (n := (lastN k).q0) (by simp [lastN]), outB_in (n := (lastN k).q1) (by simp only [lastN]; omega), outB_in (n := (lastN k).q2) (by simp only [lastN]; omega), outB_in (n := (lastN k).q3) (by simp [lastN]), outB_in (n := (lastN k).q4) (by simp [lastN]), outB_in (n := (lastN k).q5) (by simp [lastN]), outB_in (n := (lastN k).q6) (by simp [lastN])]
    rfl
  have ho : outB 0 rates 0 = false := outB_in (by omega)
  have e : rchk (lastN k) rates = if outB 0 rates 0 = true then 15 else 0 := by
    unfold rchk
    rw [hp]
    rfl
  rw [e, ho]
  rfl
theorem numR_le (L : List Int) : numR L ≤ 4 := Nat.min_le_left _ _
theorem genC_R (L : List Int) : (genC L).R = rulesC L (svcsM L) (numR L) ++ [lastN (pk L 7)] := rfl
theorem genC_rule {L : List Int} {r : RuleD} (h : r ∈ (genC L).R) : (∃ (Q : List Int) (n : Int), 0 ≤ n ∧ r = ruleN (svcsM L) n (genR Q)) ∨ r = lastN (pk L 7) := by
  rw [genC_R] at h
  rcases List.mem_append.1 h with h | h
  · obtain ⟨i, -, rfl⟩ := List.mem_map.1 h
    exact .inl ⟨_, _, by omega, rfl⟩
  · exact .inr (List.mem_singleton.1 h)
theorem genC_nerr (L : List Int) : nerr (genC L).R (genC L).T.length = 0 := by
  refine nerr_all _ _ ?_ ?_
  · rw [genC_R, List.length_append, rulesC_len]
    have := numR_le L
    simp
    omega
  · intro r hr
    have hm := svcsM_bd L
    rcases genC_rule hr with ⟨Q, n, hn, rfl⟩ | rfl
    · exact rchk_ruleN Q _ n _ ⟨by omega, by omega⟩ hn (by show (1 : Int) ≤ 1; omega)
    · exact rchk_lastN _ _ (by show (0 : Int) ≤ 1; omega)
/-- the small mesh is right -/
theorem genC_right (L : List Int) : chkC (genC L) = 0 := by
  have hm := svcsM_bd L
  have hem : endsM L ≤ 6 := by unfold endsM; omega
  have hl : ¬ (10 < (genC L).S.length ∨ 40 < (genC L).E.length ∨ 4 < (genC L).T.length) := by
    have e1 : (genC L).S.length = svcsM L := svcsN_len _ _
    have e2 : (genC L).E.length = svcsM L + endsM L := by
      show (endsA L (svcsM L) ++ endsZ L (svcsM L) (endsM L)).length = _
      rw [List.length_append, endsA_len, endsZ_len]
    have e3 : (genC L).T.length = 1 := rfl
    omega
  have h1 : allAt svcB [] (genC L).S = true := svcs_may L _ hm.2
  have h2 : allAt (fun a e => endB a (genC L).S e) [] (genC L).E = true := ends_may L _ _ hm hem
  have h3 : (genC L).R.all (leadB (genC L).S) = true := by
    rw [List.all_eq_true]
    intro r hr
    rcases genC_rule hr with ⟨Q, n, hn, rfl⟩ | rfl
    · exact lead_ruleN L _ hm.1 _ _ (genR_mi_bd Q).1
    · have : thereB (svcsN L (svcsM L)) 1 = true := (there_svcsN L _ 1).2 ⟨by omega, by omega⟩
      show leadB (svcsN L (svcsM L)) (lastN (pk L 7)) = true
      unfold leadB
      rw [show (lastN (pk L 7)).P = [(1, 1)] from rfl, show (lastN (pk L 7)).mi = 0 from rfl]
      simp [this]
  have p0 := pk_lt L 0
  have p1 := pk_lt L 1
  have p7 := pk_lt L 7
  have p8 := pk_lt L 8
  have h4 : (genC L).T.all rateB = true := by
    show ([(⟨2 + (pk L 7 : Int) % 9, 10 + (pk L 7 : Int) / 9 % 40, 1 + (pk L 7 : Int) / 360 % 2⟩ : RateD)]).all rateB = true
    rw [List.all_cons, List.all_nil, Bool.and_true]
    unfold rateB
    rw [inB_in (by simp only; omega), inB_in (by simp only; omega), inB_in (by simp only; omega)]
    rfl
  have ht : ∀ d, 1 ≤ topN d ∧ topN d ≤ 8 := fun d => by unfold topN; split <;> (try split) <;> (try split) <;> omega
  have hs : ∀ d, 0 ≤ shareN d ∧ shareN d ≤ 100 := fun d => by unfold shareN; split <;> (try split) <;> (try split) <;> (try split) <;> omega
  have hsa : ∀ d, 0 ≤ sampleN d ∧ sampleN d ≤ 100 := fun d => by unfold sampleN; split <;> (try split) <;> (try split) <;> omega
  have h5 : watchB (genC L) = true := by
    unfold watchB
    have h6 : (genC L).w5 ≤ (genC L).w6 ∧ (genC L).w6 ≤ 10000 := by
      have hw5 : 1 ≤ (genC L).w5 ∧ (genC L).w5 ≤ 20 := by simp only [genC]; omega
      have e : (genC L).w6 = (genC L).w5 * topN (pk L 8 / 72000 % 4) := rfl
      have := ht (pk L 8 / 72000 % 4)
      rw [e]
      constructor
      · have := Int.mul_le_mul_of_nonneg_left this.1 (show 0 ≤ (genC L).w5 by omega)
        omega
      · have h8 := Int.mul_le_mul_of_nonneg_left this.2 (show 0 ≤ (genC L).w5 by omega)
        omega
    rw [inB_in (n := (genC L).w0) (by simp only [genC]; omega), inB_in (n := (genC L).w1) (by simp only [genC]; omega), inB_in (n := (genC L).w2) (by simp only [genC]; omega), inB_in (n := (genC L).w3) (by simp only [genC]; omega), inB_in (n := (genC L).w4) (hs _), inB_in (n := (genC L).w5) (by simp only [genC]; omega), inB_in (n := (genC L).w6) h6]
    rfl
  have h6 : numB (genC L) = true := by
    unfold numB
    have hh : (genC L).high ≤ 100 := by simp only [genC]; omega
    rw [decide_eq_true hh, inB_in (n := (genC L).panic) (by simp only [genC]; omega), inB_in (n := (genC L).low) (by simp only [genC]; omega), inB_in (n := (genC L).wait) (by simp only [genC]; omega), inB_in (n := (genC L).hop) (by simp only [genC]; omega), inB_in (n := (genC L).life) (by simp only [genC]; omega), inB_in (n := (genC L).purse) (by simp only [genC]; omega), inB_in (n := (genC L).horizon) (by simp only [genC]; omega), inB_in (n := (genC L).sample) (hsa _)]
    rfl
  unfold chkC
  rw [if_neg hl, h1, h2, genC_nerr L, h3, h4, h5, h6]
  rfl
theorem partsN_snd (m : Int) : ∀ (P : List (Int × Int)) (had : List Int), (partsN m P had).length ≤ P.length ∧ ∀ p ∈ partsN m P had, ∃ q ∈ P, p.2 = q.2
  | [], _ => ⟨Nat.le_refl _, fun p h => by cases h⟩
  | q :: P, had => by
    unfold partsN
    split
    · obtain ⟨h1, h2⟩ := partsN_snd m P had
      exact ⟨by simp only [List.length_cons]; omega, fun p hp => by obtain ⟨x, hx, e⟩ := h2 p hp; exact ⟨x, List.mem_cons_of_mem _ hx, e⟩⟩
    · obtain ⟨h1, h2⟩ := partsN_snd m P (had ++ [1 + (q.1 - 1) % m])
      refine ⟨by simp only [List.length_cons]; omega, fun p hp => ?_⟩
      rcases List.mem_cons.1 hp with rfl | hp
      · exact ⟨q, List.mem_cons_self, rfl⟩
      · obtain ⟨x, hx, e⟩ := h2 p hp
        exact ⟨x, List.mem_cons_of_mem _ hx, e⟩
theorem ruleN_fit {m n : Int} (hm : 1 ≤ m ∧ m ≤ 4) {r : RuleD} (h : RuleFit r) : RuleFit (ruleN m n r) := by
  obtain ⟨h1, h2, h3, h4, h5, h6, h7⟩ := h
  obtain ⟨p1, p2⟩ := partsN_snd m r.P []
  refine ⟨h1, h2, h3, h4, h5, fun p hp => ?_, by show (partsN m r.P []).length ≤ _; omega⟩
  have hp' : p ∈ partsN m r.P [] := hp
  have := partsN_mem m hm.1 r.P [] p hp'
  obtain ⟨q, hq, e⟩ := p2 p hp'
  exact ⟨⟨by omega, by omega⟩, by rw [e]; exact (h6 q hq).2⟩
theorem lastN_fit (k : Nat) : RuleFit (lastN k) := by
  refine ⟨show (1 : Nat) ≤ _ by omega, Nat.zero_le _, fun x h => absurd h List.not_mem_nil, fun x h => absurd h List.not_mem_nil, fun x h => absurd h List.not_mem_nil, fun p hp => ?_, show (1 : Nat) ≤ _ by omega⟩
  have : p = (1, 1) := List.mem_singleton.1 hp
  subst this
  exact ⟨⟨by decide, by decide⟩, ⟨by decide, by decide⟩⟩
theorem genC_fit (L : List Int) : ConfFit (genC L) := by
  have hm := svcsM_bd L
  have hem : endsM L ≤ 6 := by unfold endsM; omega
  refine ⟨fun s hs => ?_, fun e he => ?_, fun r hr => ?_, ?_, ?_, ?_, ?_⟩
  · obtain ⟨i, hi, rfl⟩ := List.mem_map.1 (show s ∈ svcsN L (svcsM L) from hs)
    have hi' := List.mem_range.1 hi
    have := pk_lt L (1 + (i + 1))
    refine ⟨?_, ?_, ?_, ?_, ?_, ?_, fun p hp => ?_⟩
    · show I64 ((i + 1 : Nat) : Int); exact ⟨by omega, by omega⟩
    · simp only [svcN]; exact ⟨by omega, by omega⟩
    · simp only [svcN]; exact ⟨by omega, by omega⟩
    · simp only [svcN]; exact ⟨by omega, by omega⟩
    · simp only [svcN]; exact ⟨by omega, by omega⟩
    · simp only [svcN]; exact ⟨by omega, by omega⟩
    · obtain ⟨j, -, rfl⟩ := List.mem_map.1 (show p ∈ kidsN _ _ _ from hp)
      have : ∀ d, (kidP d).size ≤ 4 := fun d => by
        unfold kidP
        split
        · decide
        · split
          · decide
          · split <;> decide
      unfold SzB
      have := this ((pk L (1 + (i + 1)) / 3888 + j + (i + 1)) % 4)
      omega
  · obtain ⟨k, hk, rfl⟩ := List.getElem_of_mem (show e ∈ endsA L (svcsM L) ++ endsZ L (svcsM L) (endsM L) from he)
    have hk' : k < svcsM L + endsM L := by rw [List.length_append, endsA_len, endsZ_len] at hk; exact hk
    have h6 := pk_lt L 6
    rw [endsC_get L _ _ k hk']
    split
    · have := pk_lt L (1 + (k + 1))
      simp only [endA]
      exact ⟨⟨by simp only; omega, by simp only; omega⟩, ⟨by simp only; omega, by simp only; omega⟩, ⟨by simp only; omega, by simp only; omega⟩⟩
    · simp only [endZ]
      have h1 := Int.emod_nonneg ((pk L 6 : Int) / 4) (show (svcsM L : Int) ≠ 0 by omega)
      have h2 := Int.emod_lt_of_pos ((pk L 6 : Int) / 4) (show (0 : Int) < svcsM L by omega)
      exact ⟨⟨by simp only; omega, by simp only; omega⟩, ⟨by simp only; omega, by simp only; omega⟩, ⟨by simp only; omega, by simp only; omega⟩⟩
  · rcases genC_rule hr with ⟨Q, n, hn, rfl⟩ | rfl
    · refine ⟨ruleN_fit ⟨by omega, by omega⟩ (genR_fit Q), ?_⟩
      have hmi := genR_mi_bd Q
      have e1 := Int.emod_nonneg ((genR Q).mi - 1) (show (svcsM L : Int) ≠ 0 by omega)
      have e2 := Int.emod_lt_of_pos ((genR Q).mi - 1) (show (0 : Int) < svcsM L by omega)
      show I64 (if 0 < (genR Q).mi then 1 + ((genR Q).mi - 1) % (svcsM L : Int) else (genR Q).mi)
      split <;> exact ⟨by omega, by omega⟩
    · exact ⟨lastN_fit _, show I64 0 from ⟨by decide, by decide⟩⟩
  · show (svcsN L (svcsM L)).length ≤ _; rw [svcsN_len]; omega
  · show (endsA L (svcsM L) ++ endsZ L (svcsM L) (endsM L)).length ≤ _; rw [List.length_append, endsA_len, endsZ_len]; omega
  · rw [genC_R, List.length_append, rulesC_len]; have := numR_le L; simp; omega
  · exact (show (1 : Nat) ≤ 1000 by omega)
end Go.Proofs.YtmpciohmljpncaaGreatDoor
namespace Go.Proofs.YtmpciohmljpncaaGreatDoor
open Go.ChangeShapes Go.WideShapes Go.ChangeAt Go.RowKit Go.Lib Go.Shelf
def leE (x y : EndD) : Bool := decide (x.id ≤ y.id)
def srtE (l : List EndD) : List EndD := l.mergeSort leE
/-- a service's endpoints, by their IDs -/
def endsAt (E : List EndD) (id : Int) : List EndD := srtE (E.filter fun e => e.svc == id)
/-- what a right configuration's endpoints are -/
theorem chkC_ends {c : ConfD} (h : chkC c = 0) : c.S.length ≤ 10 ∧ c.E.length ≤ 40 ∧ c.T.length ≤ 4 ∧ allAt svcB [] c.S = true ∧ allAt (fun a e => endB a c.S e) [] c.E = true ∧ nerr c.R c.T.length = 0 ∧ c.R.all (leadB c.S) = true := by
 unfold chkC at h
 split at h
 ·cases h
 ·rename_i h1
  split at h
  ·cases h
  ·rename_i h2
   split at h
   ·cases h
   ·rename_i h3
    split at h
    ·rename_i h4
     exact absurd h h4
    ·rename_i h4
     split at h
     ·cases h
     ·rename_i h5
      exact ⟨by omega, by omega, by omega, by simpa using h2, by simpa using h3, by omega, by simpa using h5⟩
end Go.Proofs.YtmpciohmljpncaaGreatDoor
