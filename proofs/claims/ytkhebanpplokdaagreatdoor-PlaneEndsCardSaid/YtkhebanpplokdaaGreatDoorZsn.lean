/- Merged texts (SnB, SnK). -/
import Derived.Test.YtkhebanpplokdaaGreatDoorZy
import Derived.Test.YtkhebanpplokdaaGreatDoorZcb
import Derived.Test.YtkhebanpplokdaaGreatDoorZcp
import Derived.Test.YtkhebanpplokdaaGreatDoorZrj
import Derived.Test.YtkhebanpplokdaaGreatDoorZrw
namespace Go.Proofs.YtkhebanpplokdaaGreatDoor
open Go.ChangeShapes Go.WideShapes Go.ChangeAt Go.RowKit Go.Lib Go.Shelf Go.Maps
theorem results_cell_slot {P : Program} {fn : Func} {p q : Tmp} {ty : TypeId} (h : fn.results = #[.cell p ty, .tmp q]) (tmps : Array Value) (w : World) (b o : Nat) (cs : List Value) (d : TypeDesc)
  (hp : tmps.getD p undef = .pointer (some ⟨b, o, none⟩)) (hc : w.rangeAt b o cs) (hu : P.underlying ty = some d) (hd : d.isRow = true) (hi : (P.info? ty).map (·.size) = some cs.length) :
  (results fn tmps).run P w = .ok (.tuple #[.agg cs.toArray, tmps.getD q undef]) w := by
 have hp' : tmps[p]?.getD undef = .pointer (some ⟨b, o, none⟩) := by simpa using hp
 simp [results, h, hp', asAddr, run_loadVar_mid w b o ty cs d hc hu hd hi]
def idsAt (E : List EndD) (id : Int) : List Int := (endsAt E id).map EndD.id
def svcF (S : List SvcD) (id : Int) : Option Value := (S.find? (fun s => s.id == id)).map SvcD.val
/-- a version in memory: all that it leads to lies in blocks from B on -/
structure SnapIs (B : Nat) (w : World) (b : Nat) (ver : Int) (d : ConfD) (bt bs br : Nat) (nb : Value) (Rs : List RuleD) (g : Int → Option Value) : Prop where
 hb : B ≤ b
 hbs : B ≤ bs
 hbr : B ≤ br
 box : SnapBox w b ver d (.pointer (some ⟨bt, 0, none⟩)) bs br nb
 own : ConfOwn B w d
 tab : TabAt B w bt Rs (rowR d.R)
 rs : Rs.map RuleD.core = d.R.map RuleD.core
 sm : ∃ n, MapV (Lit.int .i64) w 3 bs n (svcF d.S)
 rm : ∃ n, MapV (Lit.int .i64) w 3 br n g
 rg : ∀ id, (g id).isSome = thereB d.S id
 ring : ∀ id v, g id = some v → Rg.RingNew B w v (Rg.ends (idsAt d.E id)).length (Rg.pointsOf 16 (idsAt d.E id))
 nob : Rg.RingNew B w nb (Rg.ends []).length (Rg.pointsOf 16 [])
 right : chkC d = 0
 few : d.E.length ≤ 19
theorem SnapIs.ext {B : Nat} {w w' : World} {b : Nat} {ver : Int} {d : ConfD} {bt bs br : Nat} {nb : Value} {Rs : List RuleD} {g : Int → Option Value} (h : SnapIs B w b ver d bt bs br nb Rs g) (e : Ext w w') : SnapIs B w' b ver d bt bs br nb Rs g :=
 ⟨h.hb, h.hbs, h.hbr, h.box.ext e, h.own.ext e, h.tab.ext e, h.rs, let ⟨n, hn⟩ := h.sm; ⟨n, hn.ext e⟩, let ⟨n, hn⟩ := h.rm; ⟨n, hn.ext e⟩, h.rg, fun id v hv => (h.ring id v hv).ext e, h.nob.ext e, h.right, h.few⟩
def SnapAt (B : Nat) (w : World) (b : Nat) (ver : Int) (c : ConfD) : Prop := ∃ d bt bs br nb Rs g, SnapIs B w b ver d bt bs br nb Rs g ∧ d.core = c.core
theorem SnapAt.ext {B : Nat} {w w' : World} {b : Nat} {ver : Int} {c : ConfD} (h : SnapAt B w b ver c) (e : Ext w w') : SnapAt B w' b ver c := by
 obtain ⟨d, bt, bs, br, nb, Rs, g, h, hc⟩ := h
 exact ⟨d, bt, bs, br, nb, Rs, g, h.ext e, hc⟩
theorem ends_sl {B : Nat} {w : World} {d : ConfD} (h : ConfOwn B w d) : Ends w d.ev d.E := Sl.of_own' encE_len h.e
set_option maxRecDepth 100000 in
set_option maxHeartbeats 2000000 in
/-- a service's endpoints -/
theorem mends_any {b : Nat} {ver : Int} {d : ConfD} {T : Value} {bs br : Nat} {nb : Value} (id : Int) (w : World) (hb : SnapBox w b ver d T bs br nb) (hs : Ends w d.ev d.E) (hn : (d.E.map EndD.id).Nodup) (hl : d.E.length ≤ 19) :
  Calls Tryz.prog 36 #[.pointer (some ⟨b, 0, none⟩), .int .i64 id] w fun e w' => ∃ v', e = .returned v' ∧ w'.ownsRow w.heap.size 73 3 v' (endsAt d.E id).length ((endsAt d.E id).flatMap encE) ∧ Ext w w' := by
 obtain ⟨hl', a, cap, hv⟩ := hs.shape
 have hlt := hb.lt
 have c0 : w.cell? ⟨b, 2, none⟩ = some (.slice a d.E.length cap) := by rw [← hv]; exact hb.cell 2 _ rfl
 rw [hv] at hs
 have hc := hide (toldH_any d.E (fun e => e.svc == id) id (.slice a d.E.length cap) w hs hl (fun X x _ => has_end id x X))
 have hu : ∀ s : List EndD, s.Perm (d.E.filter fun e => e.svc == id) → s.Pairwise (fun x y => x.id ≤ y.id) → s = endsAt d.E id := fun s h1 h2 => srtE_unique h1 h2 (nodup_filter _ hn)
 have HU := hide hu
 clear hs hn hu hb
 go_enter Tryz.func36, Tryz.ntmps36
 go_wp2_with fail
 refine hc.out.mono ?_
 rintro e w1 ⟨v', s, rfl, h1, h2, h3, h4⟩
 obtain rfl := HU.out s h1 h2
 clear h1 h2
 go_wp2_with fail
 go_ret
 exact ⟨v', rfl, h3, h4⟩
end Go.Proofs.YtkhebanpplokdaaGreatDoor
namespace Go.Proofs.YtkhebanpplokdaaGreatDoor
open Go.ChangeShapes Go.WideShapes Go.ChangeAt Go.RowKit Go.Lib Go.Shelf Go.Maps
theorem thereB_core (S : List SvcD) (id : Int) : thereB (S.map SvcD.core) id = thereB S id := by
 unfold thereB
 rw [List.any_map]
 rfl
theorem svcB_core (A : List SvcD) (s : SvcD) : svcB (A.map SvcD.core) s.core = svcB A s := by
 have h := thereB_core A s.id
 unfold svcB
 show (inB 1 10 s.id && !thereB (A.map SvcD.core) s.id && _ && _ && _ && _ && _ && _ && _) = _
 rw [h]
 rfl
theorem allAt_map {α β : Type} (f : List β → β → Bool) (g : List α → α → Bool) (m : α → β) (h : ∀ A s, f (A.map m) (m s) = g A s) : ∀ (L A : List α), allAt f (A.map m) (L.map m) = allAt g A L
 | [], _ => rfl
 | x :: L, A => by
  show (f (A.map m) (m x) && allAt f (A.map m ++ [m x]) (L.map m)) = (g A x && allAt g (A ++ [x]) L)
  rw [h, ← allAt_map f g m h L (A ++ [x]), List.map_append]
  rfl
theorem nerr_coreC (R : List RuleD) (n : Int) : nerr (R.map RuleD.core) n = nerr R n := by
 unfold nerr
 rw [List.length_map, List.map_map]
 rfl
theorem lead_core (S : List SvcD) (r : RuleD) : leadB (S.map SvcD.core) r.core = leadB S r := by
 unfold leadB
 show ((r.P.all fun p => thereB (S.map SvcD.core) p.1) && (r.mi == 0 || thereB (S.map SvcD.core) r.mi)) = _
 rw [thereB_core]
 simp only [thereB_core]
theorem chkC_core (c : ConfD) : chkC c.core = chkC c := by
 have h1 : allAt svcB [] (c.S.map SvcD.core) = allAt svcB [] c.S := allAt_map svcB svcB SvcD.core svcB_core c.S []
 have h2 : allAt (fun a e => endB a (c.S.map SvcD.core) e) [] c.E = allAt (fun a e => endB a c.S e) [] c.E := by
  congr 1
  funext a e
  unfold endB
  rw [thereB_core]
 have h3 : (c.R.map RuleD.core).all (leadB (c.S.map SvcD.core)) = c.R.all (leadB c.S) := by
  rw [List.all_map]
  congr 1
  funext r
  exact lead_core c.S r
 unfold chkC
 show (if 10 < (c.S.map SvcD.core).length ∨ 40 < c.E.length ∨ 4 < c.T.length then 2 else if allAt svcB [] (c.S.map SvcD.core) = false then 13 else if allAt (fun a e => endB a (c.S.map SvcD.core) e) [] c.E = false then 14 else if nerr (c.R.map RuleD.core) c.T.length ≠ 0 then nerr (c.R.map RuleD.core) c.T.length else if (c.R.map RuleD.core).all (leadB (c.S.map SvcD.core)) = false then 13 else if c.T.all rateB = false then 15 else if watchB c.core = false then 8 else if numB c.core = false then 8 else 0) = _
 rw [h1, h2, h3, nerr_coreC, List.length_map]
 rfl
theorem chkC_same {c d : ConfD} (h : d.core = c.core) : chkC d = chkC c := by rw [← chkC_core d, h, chkC_core]
theorem mem_core {c d : ConfD} (h : d.core = c.core) {r : RuleD} (hr : r ∈ d.R) : ∃ r0 ∈ c.R, r.core = r0.core := by
 have h1 : d.core.R = c.core.R := by rw [h]
 have h2 : r.core ∈ c.R.map RuleD.core := by
  have : r.core ∈ d.core.R := List.mem_map.2 ⟨r, hr, rfl⟩
  rw [h1] at this
  exact this
 obtain ⟨r0, h3, h4⟩ := List.mem_map.1 h2
 exact ⟨r0, h3, h4.symm⟩
theorem RuleFit.core {r r0 : RuleD} (h : RuleFit r0) (e : r.core = r0.core) : RuleFit r := by
 have h1 : RuleFit r0.core := h
 rw [← e] at h1
 exact h1
theorem core_E {c d : ConfD} (h : d.core = c.core) : d.E = c.E := by
 have h1 : d.core.E = c.core.E := by rw [h]
 exact h1
/-- blocks that are maps -/
def OfM (w : World) (X : Nat → Prop) : Prop := ∀ g, X g → ∃ es c, w.heap[g]? = some (.map es c)
theorem OfM.one {w : World} {b : Nat} {es : Array MapEntry} {c : Nat} (h : w.heap[b]? = some (.map es c)) : OfM w (fun g => g = b) := fun g hg => by subst hg; exact ⟨es, c, h⟩
theorem MapV.block {α : Type} {mk : α → Lit} {w : World} {k : TypeId} {b n : Nat} {f : α → Option Value} (h : MapV mk w k b n f) : ∃ es c, w.heap[b]? = some (.map es c) := by
 obtain ⟨D, ⟨es, c, h1, -⟩, -⟩ := h
 exact ⟨es, c, h1⟩
theorem MapV.ofM {α : Type} {mk : α → Lit} {w : World} {k : TypeId} {b n : Nat} {f : α → Option Value} (h : MapV mk w k b n f) : OfM w (fun g => g = b) := by
 obtain ⟨es, c, h1⟩ := h.block
 exact OfM.one h1
theorem cells_keepM {X : Nat → Prop} {w w' : World} (k : Keeps X w w') (hX : OfM w X) {b : Nat} {cs : Array Value} {T : TypeId} {f : Nat × Nat} (h : w.heap[b]? = some (.cells cs T f)) : w'.heap[b]? = some (.cells cs T f) :=
 (k.block b (Array.getElem?_eq_some_iff.1 h).1 (fun hx => by
  obtain ⟨es, c, h1⟩ := hX b hx
  rw [h] at h1
  cases h1)).trans h
theorem owns_keepM {X : Nat → Prop} {w w' : World} {base : Nat} {e : TypeId} {size : Nat} {v : Value} {n : Nat} {xs : List Value} (h : w.ownsRow base e size v n xs) (k : Keeps X w w') (hX : OfM w X) : w'.ownsRow base e size v n xs :=
 owns_keeps h k fun g hg hx => by
  obtain ⟨es, c, h1⟩ := hX g hx
  obtain ⟨cs, f, h2⟩ := ownsRow_kind h g hg
  rw [h1] at h2
  cases h2
theorem RuleOwn.keepM {X : Nat → Prop} {B : Nat} {w w' : World} {r : RuleD} (h : RuleOwn B w r) (k : Keeps X w w') (hX : OfM w X) : RuleOwn B w' r :=
 ⟨owns_keepM h.1 k hX, owns_keepM h.2.1 k hX, owns_keepM h.2.2.1 k hX, owns_keepM h.2.2.2 k hX⟩
theorem ConfOwn.keepM {X : Nat → Prop} {B : Nat} {w w' : World} {c : ConfD} (h : ConfOwn B w c) (k : Keeps X w w') (hX : OfM w X) : ConfOwn B w' c :=
 ⟨owns_keepM h.s k hX, fun s hs => owns_keepM (h.k s hs) k hX, owns_keepM h.e k hX, owns_keepM h.r k hX, fun r hr => (h.rr r hr).keepM k hX, owns_keepM h.t k hX⟩
theorem TabAt.keepM {X : Nat → Prop} {B b : Nat} {w w' : World} {Rs : List RuleD} {I : List Int} (h : TabAt B w b Rs I) (k : Keeps X w w') (hX : OfM w X) : TabAt B w' b Rs I := by
 obtain ⟨h1, ⟨vr, vi, h2, h3, h4⟩, h5⟩ := h
 exact ⟨h1, ⟨vr, vi, cells_keepM k hX h2, owns_keepM h3 k hX, owns_keepM h4 k hX⟩, fun r hr => (h5 r hr).keepM k hX⟩
theorem SnapBox.keepM {X : Nat → Prop} {w w' : World} {b : Nat} {ver : Int} {d : ConfD} {T : Value} {bs br : Nat} {nb : Value} (h : SnapBox w b ver d T bs br nb) (k : Keeps X w w') (hX : OfM w X) : SnapBox w' b ver d T bs br nb := cells_keepM k hX h
theorem cell_keepM {X : Nat → Prop} {w w' : World} (k : Keeps X w w') (hX : OfM w X) {p : Addr} {u : Value} (h : w.cell? p = some u) : w'.cell? p = some u := by
 have hlt := World.block_lt_of_cell? w p h
 refine (k.cell hlt (fun hx => ?_)).trans h
 obtain ⟨es, c, h1⟩ := hX _ hx
 simp [World.cell?, h1] at h
theorem sl_keepM {α : Type} {enc : α → List Value} {size : Nat} {X : Nat → Prop} {w w' : World} {v : Value} {xs : List α} (_hsz : 0 < size) (_hs : ∀ x, (enc x).length = size) (h : Sl enc size w v xs) (k : Keeps X w w') (hX : OfM w X) : Sl enc size w' v xs := by
 obtain ⟨h1, a, cap, h2, hcap, h3⟩ := h
 refine ⟨h1, a, cap, h2, hcap, fun i x hi => ?_⟩
 obtain ⟨b, off, ha, hb, hc⟩ := h3 i x hi
 exact ⟨b, off, ha, Nat.lt_of_lt_of_le hb k.size, fun j u hu => cell_keepM k hX (hc j u hu)⟩
theorem RingNew.keepM {X : Nat → Prop} {base : Nat} {w w' : World} {r : Value} {n : Nat} {P : List (Int × Int)} (h : Rg.RingNew base w r n P) (k : Keeps X w w') (hX : OfM w X) : Rg.RingNew base w' r n P := by
 obtain ⟨h0, h00, B, a, cap, h1, h2, h3, h4⟩ := h
 exact ⟨h0, h00, B, a, cap, h1, cells_keepM k hX h2, sl_keepM (by decide) Rg.encQ_len h3 k hX, h4⟩
theorem MapV.keepB {α : Type} {mk : α → Lit} {w w' : World} {k : TypeId} {b n : Nat} {f : α → Option Value} (h : MapV mk w k b n f) (e : w'.heap[b]? = w.heap[b]?) : MapV mk w' k b n f := by
 obtain ⟨D, ⟨es, c, h1, h2⟩, h3⟩ := h
 exact ⟨D, ⟨es, c, e.trans h1, h2⟩, h3⟩
theorem svcF_succ {S : List SvcD} (hn : (S.map SvcD.id).Nodup) (k : Nat) (hk : k < S.length) (id : Int) : svcF (S.take (k + 1)) id = if id = S[k].id then some S[k].val else svcF (S.take k) id := by
 unfold svcF
 rw [take_snoc S k hk, List.find?_append]
 by_cases h : id = S[k].id
 ·subst h
  rw [if_pos rfl]
  have h0 : (S.take k).find? (fun s => s.id == S[k].id) = none := by
   rw [List.find?_eq_none]
   intro s hs he
   obtain ⟨i, hi, rfl⟩ := List.getElem_of_mem hs
   have hik : i < k := by rw [List.length_take] at hi; omega
   have := List.pairwise_iff_getElem.1 (List.pairwise_map.1 hn) i k (by omega) hk hik
   rw [List.getElem_take] at he
   exact this (by simpa using he)
  rw [h0]
  simp
 ·rw [if_neg h]
  have h1 : (S[k].id == id) = false := by simp; exact fun e => h e.symm
  simp [h1]
theorem there_succ (S : List SvcD) (k : Nat) (hk : k < S.length) (id : Int) : thereB (S.take (k + 1)) id = (thereB (S.take k) id || S[k].id == id) := by
 unfold thereB
 rw [take_snoc S k hk, List.any_append]
 simp
end Go.Proofs.YtkhebanpplokdaaGreatDoor
