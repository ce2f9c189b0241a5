/- Merged texts (SnB, SnC, SnK). -/
import Derived.Test.YtnnddjmdpplolaaGreatDoorZy
import Derived.Test.YtnnddjmdpplolaaGreatDoorZcb
import Derived.Test.YtnnddjmdpplolaaGreatDoorZcp
import Derived.Test.YtnnddjmdpplolaaGreatDoorZrj
import Derived.Test.YtnnddjmdpplolaaGreatDoorZrw

/- Versions in memory: Ends, Service, Ring, Diff (printed by wip/gen_snb.py). -/
namespace Go.Proofs.YtnnddjmdpplolaaGreatDoor
open Go.ChangeShapes Go.WideShapes Go.ChangeAt Go.RowKit Go.Lib Go.Shelf Go.Maps
theorem results_cell_slot {P : Program} {fn : Func} {p q : Tmp} {ty : TypeId} (h : fn.results = #[.cell p ty, .tmp q]) (tmps : Array Value) (w : World) (b o : Nat) (cs : List Value) (d : TypeDesc)
  (hp : tmps.getD p undef = .pointer (some ⟨b, o, none⟩)) (hc : w.rangeAt b o cs) (hu : P.underlying ty = some d) (hd : d.isRow = true) (hi : (P.info? ty).map (·.size) = some cs.length) :
  (results fn tmps).run P w = .ok (.tuple #[.agg cs.toArray, tmps.getD q undef]) w := by
 have hp' : tmps[p]?.getD undef = .pointer (some ⟨b, o, none⟩) := by simpa using hp
 simp [results, h, hp', asAddr, run_loadVar_mid w b o ty cs d hc hu hd hi]
def idsAt (E : List EndD) (id : Int) : List Int := (endsAt E id).map EndD.id
def svcF (S : List SvcD) (id : Int) : Option Value := (S.find? (fun s => s.id == id)).map SvcD.val
def svc0 : SvcD := ⟨0, .slice none 0 0, [], 0, 0, 0, 0, 0⟩
def svcAt (S : List SvcD) (id : Int) : SvcD := (S.find? (fun s => s.id == id)).getD svc0
theorem svcF_some (S : List SvcD) (id : Int) : (svcF S id).isSome = thereB S id := by
 unfold svcF thereB
 rw [Option.isSome_map]
 induction S with
 | nil => rfl
 | cons s S ih =>
  simp only [List.find?_cons, List.any_cons]
  cases s.id == id <;> simp [ih]
/-- a version in memory: all that it leads to lies in blocks from B on -/
structure SnapIs (B : Nat) (w : World) (b : Nat) (ver : Int) (d : ConfD) (bt bs br : Nat) (nb : Value) (Rs : List RuleD) (g : Int → Option Value) : Prop where
 hb : B ≤ b
 hbs : B ≤ bs
 hbr : B ≤ br
 box : SnapBox w b ver d (.pointer (some ⟨bt, 0, none⟩)) bs br nb
 own : ConfOwn B w d
 tab : TabAt B w bt Rs (rowR d.R)
 rs : Rs.map RuleD.core = d.R.map RuleD.core
 sm : ∃ n, MapV (Lit.int .i64) w 3 bs n (svcF d.S)
 rm : ∃ n, MapV (Lit.int .i64) w 3 br n g
 rg : ∀ id, (g id).isSome = thereB d.S id
 ring : ∀ id v, g id = some v → Rg.RingNew B w v (Rg.ends (idsAt d.E id)).length (Rg.pointsOf 16 (idsAt d.E id))
 nob : Rg.RingNew B w nb (Rg.ends []).length (Rg.pointsOf 16 [])
 right : chkC d = 0
 few : d.E.length ≤ 19
theorem SnapIs.ext {B : Nat} {w w' : World} {b : Nat} {ver : Int} {d : ConfD} {bt bs br : Nat} {nb : Value} {Rs : List RuleD} {g : Int → Option Value} (h : SnapIs B w b ver d bt bs br nb Rs g) (e : Ext w w') : SnapIs B w' b ver d bt bs br nb Rs g :=
 ⟨h.hb, h.hbs, h.hbr, h.box.ext e, h.own.ext e, h.tab.ext e, h.rs, let ⟨n, hn⟩ := h.sm; ⟨n, hn.ext e⟩, let ⟨n, hn⟩ := h.rm; ⟨n, hn.ext e⟩, h.rg, fun id v hv => (h.ring id v hv).ext e, h.nob.ext e, h.right, h.few⟩
theorem SnapIs.nodup {B : Nat} {w : World} {b : Nat} {ver : Int} {d : ConfD} {bt bs br : Nat} {nb : Value} {Rs : List RuleD} {g : Int → Option Value} (h : SnapIs B w b ver d bt bs br nb Rs g) : (d.E.map EndD.id).Nodup := ends_nodup (chkC_ends h.right).2.2.2.2.1
def SnapAt (B : Nat) (w : World) (b : Nat) (ver : Int) (c : ConfD) : Prop := ∃ d bt bs br nb Rs g, SnapIs B w b ver d bt bs br nb Rs g ∧ d.core = c.core
theorem SnapAt.ext {B : Nat} {w w' : World} {b : Nat} {ver : Int} {c : ConfD} (h : SnapAt B w b ver c) (e : Ext w w') : SnapAt B w' b ver c := by
 obtain ⟨d, bt, bs, br, nb, Rs, g, h, hc⟩ := h
 exact ⟨d, bt, bs, br, nb, Rs, g, h.ext e, hc⟩
theorem ends_sl {B : Nat} {w : World} {d : ConfD} (h : ConfOwn B w d) : Ends w d.ev d.E := Sl.of_own' encE_len h.e
set_option maxRecDepth 100000 in
set_option maxHeartbeats 2000000 in
/-- a service's endpoints -/
theorem mends_any {b : Nat} {ver : Int} {d : ConfD} {T : Value} {bs br : Nat} {nb : Value} (id : Int) (w : World) (hb : SnapBox w b ver d T bs br nb) (hs : Ends w d.ev d.E) (hn : (d.E.map EndD.id).Nodup) (hl : d.E.length ≤ 19) :
  Calls Tryz.prog 19 #[.pointer (some ⟨b, 0, none⟩), .int .i64 id] w fun e w' => ∃ v', e = .returned v' ∧ w'.ownsRow w.heap.size 46 3 v' (endsAt d.E id).length ((endsAt d.E id).flatMap encE) ∧ Ext w w' := by
 obtain ⟨hl', a, cap, hv⟩ := hs.shape
 have hlt := hb.lt
 have c0 : w.cell? ⟨b, 2, none⟩ = some (.slice a d.E.length cap) := by rw [← hv]; exact hb.cell 2 _ rfl
 rw [hv] at hs
 have hc := hide (toldH_any d.E (fun e => e.svc == id) id (.slice a d.E.length cap) w hs hl (fun X x _ => has_end id x X))
 have hu : ∀ s : List EndD, s.Perm (d.E.filter fun e => e.svc == id) → s.Pairwise (fun x y => x.id ≤ y.id) → s = endsAt d.E id := fun s h1 h2 => srtE_unique h1 h2 (nodup_filter _ hn)
 have HU := hide hu
 clear hs hn hu hb
 go_enter Tryz.func19, Tryz.ntmps19
 go_wp2_with fail
 refine hc.out.mono ?_
 rintro e w1 ⟨v', s, rfl, h1, h2, h3, h4⟩
 obtain rfl := HU.out s h1 h2
 clear h1 h2
 go_wp2_with fail
 go_ret
 exact ⟨v', rfl, h3, h4⟩
set_option maxRecDepth 100000 in
set_option maxHeartbeats 4000000 in
/-- a service -/
theorem mservice_any {B b : Nat} {ver : Int} {d : ConfD} {bt bs br : Nat} {nb : Value} {Rs : List RuleD} {g : Int → Option Value} (id : Int) (w : World) (h : SnapIs B w b ver d bt bs br nb Rs g) (hi : I64 id) :
  Calls Tryz.prog 16 #[.pointer (some ⟨b, 0, none⟩), .int .i64 id] w fun e w' => ∃ kv, e = .returned (.tuple #[({ svcAt d.S id with kv := kv } : SvcD).val, .bool (thereB d.S id)]) ∧ w'.ownsRow w.heap.size 9 1 kv (svcAt d.S id).K.length ((svcAt d.S id).K.flatMap encS) ∧ Ext w w' := by
 have hlt := h.box.lt
 have c3 : ∀ X, Ext w X → X.cell? ⟨b, 22, none⟩ = some (.map (some bs)) := fun X hX => (h.box.ext hX).cell 22 _ rfl
 obtain ⟨n, hm⟩ := h.sm
 have hz : ∀ w : World, (zeroValue 44).run Tryz.prog w = .ok (.agg #[.int .i64 0, .slice none 0 0, .int .i64 0, .int .i64 0, .int .i64 0, .int .i64 0, .int .i64 0]) w := fun w => by kernel_rfl
 have hk := keyIn hi
 obtain ⟨s, hs⟩ : ∃ s, svcAt d.S id = s := ⟨_, rfl⟩
 have hg1 : (svcF d.S id).getD (.agg #[.int .i64 0, .slice none 0 0, .int .i64 0, .int .i64 0, .int .i64 0, .int .i64 0, .int .i64 0]) = s.val := by
  rw [← hs]
  unfold svcF svcAt
  cases d.S.find? (fun s => s.id == id) <;> rfl
 have hg2 := svcF_some d.S id
 have ho : w.ownsRow 0 9 1 s.kv s.K.length (s.K.flatMap encS) ∧ s.K.length ≤ 1000000 := by
  rw [← hs]
  unfold svcAt
  cases hf : d.S.find? (fun s => s.id == id) with
  | none => exact ⟨⟨rfl, .inl ⟨rfl, rfl⟩⟩, Nat.zero_le _⟩
  | some x =>
   have hx := List.mem_of_find?_eq_some hf
   refine ⟨owns_mono (h.own.k x hx) (Nat.zero_le _), ?_⟩
   have h2 := (chkC_ends h.right).2.2.2.1
   rw [allAt_spec] at h2
   obtain ⟨k, hk, rfl⟩ := List.getElem_of_mem hx
   have := h2 k hk
   simp only [svcB, Bool.and_eq_true, decide_eq_true_eq] at this
   have h5 := this.1.1.1.1.1.1.2
   exact Nat.le_trans h5 (by decide)
 rw [hs]
 obtain ⟨ho, hol⟩ := ho
 generalize thereB d.S id = t at hg2 ⊢
 have HM := hide hm
 have HG1 := hide hg1
 have HG2 := hide hg2
 obtain ⟨sid, skv, sK, swork, sslots, squeue, sbal, swarm⟩ := s
 have HO := hide ho
 have HC3 := hide c3
 obtain ⟨ka, kc, hkv⟩ := owns_shape ho
 simp only [] at hkv hol
 subst hkv
 simp only [SvcD.val] at HG1 ⊢
 clear hm h hg1 hg2 hs ho c3
 have hE1 : Ext w (w.alloc (.cells #[.int .i64 0, .slice none 0 0, .int .i64 0, .int .i64 0, .int .i64 0, .int .i64 0, .int .i64 0] 44)) := (Below.refl _ _).alloc (Nat.le_refl _) _
 have hb1 := heap_alloc_new w (.cells #[.int .i64 0, .slice none 0 0, .int .i64 0, .int .i64 0, .int .i64 0, .int .i64 0, .int .i64 0] 44)
 have HE1 := hide hE1
 have HB1 := hide hb1
 clear hE1 hb1
 go_enter Tryz.func16, Tryz.ntmps16
 go_upto_region 1 with (fail)
 have q22 := HC3.out _ HE1.out
 have hm1 := HM.out.ext HE1.out
 generalize w.alloc (.cells #[.int .i64 0, .slice none 0 0, .int .i64 0, .int .i64 0, .int .i64 0, .int .i64 0, .int .i64 0] 44) = W at HE1 HB1 q22 hm1 ⊢
 have HM1 := hide hm1
 clear hm1 HM HC3
 go_upto_region 2 with (at_lookup; refine wpList_mv_look_ok _ rfl _ _ _ rfl HM1.out keyedI Tryz.underlying57 (hz _) rfl _ rfl hk _ HG1.out _ HG2.out ?_)
 have hb2 := heap_alloc_new W (.cells #[.int .i64 sid, .slice ka sK.length kc, .int .i64 swork, .int .i64 sslots, .int .i64 squeue, .int .i64 sbal, .int .i64 swarm] 44)
 have hE2 : Ext W (W.alloc (.cells #[.int .i64 sid, .slice ka sK.length kc, .int .i64 swork, .int .i64 sslots, .int .i64 squeue, .int .i64 sbal, .int .i64 swarm] 44)) := (Below.refl _ _).alloc (Nat.le_refl _) _
 have hwl : w.heap.size < W.heap.size := (Array.getElem?_eq_some_iff.1 HB1.out).1
 have hb1 := (hE2.block w.heap.size hwl).trans HB1.out
 generalize W.alloc (.cells #[.int .i64 sid, .slice ka sK.length kc, .int .i64 swork, .int .i64 sslots, .int .i64 squeue, .int .i64 sbal, .int .i64 swarm] 44) = W2 at hb2 hE2 hb1 ⊢
 generalize W.heap.size = b2 at hb2 hwl ⊢
 have c21 : W2.cell? ⟨b2, 1, none⟩ = some (.slice ka sK.length kc) := by simp [World.cell?, hb2]
 have HE2 := hide (HE1.out.trans hE2)
 have HB2 := hide hb2
 have HB12 := hide hb1
 clear hb2 hE2 hb1 HB1 HM1 HG1 HG2 q22 hk HE1
 go_wp2_with fail
 refine (clS_any sK (.slice ka sK.length kc) W2 (owns_ext HO.out HE2.out) hol (ones encS_one sK)).mono ?_
 rintro e w3 ⟨v3, rfl, h3, E3⟩
 obtain ⟨a3, n3, rfl⟩ := owns_shape h3
 have hl2 : b2 < W2.heap.size := (Array.getElem?_eq_some_iff.1 HB2.out).1
 have hl1 : w.heap.size < W2.heap.size := (Array.getElem?_eq_some_iff.1 HB12.out).1
 have g2 := (E3.block b2 hl2).trans HB2.out
 have g1 := (E3.block w.heap.size hl1).trans HB12.out
 have c21 : w3.cell? ⟨b2, 1, none⟩ = some (.slice ka sK.length kc) := by simp [World.cell?, g2]
 have z21 : w3.frozen? ⟨b2, 1, none⟩ = false := by simp [World.frozen?, g2]
 have g2' : (w3.setCell ⟨b2, 1, none⟩ (.slice a3 sK.length n3)).heap[b2]? = some (.cells #[.int .i64 sid, .slice a3 sK.length n3, .int .i64 swork, .int .i64 sslots, .int .i64 squeue, .int .i64 sbal, .int .i64 swarm] 44 (0, 0)) := by
  have := ArrB.set g2 1 (.slice a3 sK.length n3)
  simpa using this
 have g1' : (w3.setCell ⟨b2, 1, none⟩ (.slice a3 sK.length n3)).heap[w.heap.size]? = some (.cells #[.int .i64 0, .slice none 0 0, .int .i64 0, .int .i64 0, .int .i64 0, .int .i64 0, .int .i64 0] 44 (0, 0)) := (Below.heap_setCell w3 _ _ w.heap.size (by show w.heap.size ≠ b2; omega)).trans g1
 have hk3 := Keeps.of_set (X := fun q => q = b2) w3 b2 1 (.slice a3 sK.length n3) rfl
 have h3' := owns_keepT (owns_mono h3 HE2.out.size) hk3 (OfT.one g2) (by decide)
 have hE3 := Keeps.ext (HE2.out.trans E3) hk3 (fun q hq => by omega)
 have G1 := hide g1'
 have G2 := hide g2'
 have H3 := hide h3'
 have HE3 := hide hE3
 clear g1 g2 g1' g2' h3 h3' hE3 hk3 E3 HB2 HB12 HE2 hl1 hl2
 go_upto_region 3 with (fail)
 generalize w3.setCell ⟨b2, 1, none⟩ (.slice a3 sK.length n3) = W4 at G1 G2 H3 HE3 ⊢
 clear c21 z21
 have c20 : W4.cell? ⟨b2, 0, none⟩ = some (.int .i64 sid) := by simp [World.cell?, G2.out]
 have c21 : W4.cell? ⟨b2, 1, none⟩ = some (.slice a3 sK.length n3) := by simp [World.cell?, G2.out]
 have c22 : W4.cell? ⟨b2, 2, none⟩ = some (.int .i64 swork) := by simp [World.cell?, G2.out]
 have c23 : W4.cell? ⟨b2, 3, none⟩ = some (.int .i64 sslots) := by simp [World.cell?, G2.out]
 have c24 : W4.cell? ⟨b2, 4, none⟩ = some (.int .i64 squeue) := by simp [World.cell?, G2.out]
 have c25 : W4.cell? ⟨b2, 5, none⟩ = some (.int .i64 sbal) := by simp [World.cell?, G2.out]
 have c26 : W4.cell? ⟨b2, 6, none⟩ = some (.int .i64 swarm) := by simp [World.cell?, G2.out]
 obtain ⟨dv, hd1, hd2⟩ := Tryz.svcDesc
 refine wp_region_lit ?_
 refine wpList_load_mid rfl 44 (.tmp 6) rfl b2 0 rfl (encV ⟨sid, .slice a3 sK.length n3, sK, swork, sslots, squeue, sbal, swarm⟩) dv (fun j v hv => by rw [Nat.zero_add]; exact ArrB.cell G2.out j v (by simpa [encV] using hv)) hd1 hd2 Tryz.svcSize ?_
 refine wpList_plain rfl fun K hK => ?_
 go_simp
 refine hK _ _ ?_
 have hth : W4.there w.heap.size 0 7 := fun j hj => by
  rw [Nat.zero_add]
  refine ⟨?_, by simp [World.frozen?, G1.out]⟩
  simp only [World.cell?, G1.out]
  simp [hj]
 refine wpList_store_mid rfl 44 (.tmp 4) (.tmp 21) rfl w.heap.size 0 (encV ⟨sid, .slice a3 sK.length n3, sK, swork, sslots, squeue, sbal, swarm⟩).toArray rfl rfl hth Tryz.svcSize (by simp [encV, Value.oneCell']) ?_
 have hrs := World.rangeAt_setCells_same W4 w.heap.size 0 (encV ⟨sid, .slice a3 sK.length n3, sK, swork, sslots, squeue, sbal, swarm⟩) hth
 have hk5 := keeps_setCells w.heap.size (encV ⟨sid, .slice a3 sK.length n3, sK, swork, sslots, squeue, sbal, swarm⟩) 0 W4
 have h5 := owns_keepT H3.out hk5 (OfT.one G1.out) (by decide)
 generalize W4.setCells w.heap.size 0 (encV ⟨sid, .slice a3 sK.length n3, sK, swork, sslots, squeue, sbal, swarm⟩) = W5 at hrs hk5 h5 ⊢
 have HE5 := hide (Keeps.ext HE3.out hk5 (fun q hq => by omega))
 have H5 := hide h5
 have HRG := hide hrs
 clear hrs hk5 h5 hth c20 c21 c22 c23 c24 c25 c26 G1 G2 H3 HE3
 simp only [Act.put]
 go_wp2_with (fail)
 (try simp only [Exit.inBlock, Exit.then])
 refine bodyPost_ret (results_cell_slot (q := 5) rfl _ _ w.heap.size 0 (encV ⟨sid, .slice a3 sK.length n3, sK, swork, sslots, squeue, sbal, swarm⟩) dv rfl HRG.out hd1 hd2 Tryz.svcSize) rfl ?_
 exact ⟨.slice a3 sK.length n3, rfl, H5.out, HE5.out⟩
end Go.Proofs.YtnnddjmdpplolaaGreatDoor

/- snap.Diff (printed by wip/gen_snc.py). -/
namespace Go.Proofs.YtnnddjmdpplolaaGreatDoor
open Go.ChangeShapes Go.WideShapes Go.ChangeAt Go.RowKit Go.Lib Go.Shelf Go.Maps
end Go.Proofs.YtnnddjmdpplolaaGreatDoor

/- What a configuration says, wherever its lists lie; a map that is written turns no row. -/
namespace Go.Proofs.YtnnddjmdpplolaaGreatDoor
open Go.ChangeShapes Go.WideShapes Go.ChangeAt Go.RowKit Go.Lib Go.Shelf Go.Maps
theorem thereB_core (S : List SvcD) (id : Int) : thereB (S.map SvcD.core) id = thereB S id := by
 unfold thereB
 rw [List.any_map]
 rfl
theorem svcB_core (A : List SvcD) (s : SvcD) : svcB (A.map SvcD.core) s.core = svcB A s := by
 have h := thereB_core A s.id
 unfold svcB
 show (inB 1 10 s.id && !thereB (A.map SvcD.core) s.id && _ && _ && _ && _ && _ && _ && _) = _
 rw [h]
 rfl
theorem allAt_map {α β : Type} (f : List β → β → Bool) (g : List α → α → Bool) (m : α → β) (h : ∀ A s, f (A.map m) (m s) = g A s) : ∀ (L A : List α), allAt f (A.map m) (L.map m) = allAt g A L
 | [], _ => rfl
 | x :: L, A => by
  show (f (A.map m) (m x) && allAt f (A.map m ++ [m x]) (L.map m)) = (g A x && allAt g (A ++ [x]) L)
  rw [h, ← allAt_map f g m h L (A ++ [x]), List.map_append]
  rfl
theorem nerr_coreC (R : List RuleD) (n : Int) : nerr (R.map RuleD.core) n = nerr R n := by
 unfold nerr
 rw [List.length_map, List.map_map]
 rfl
theorem lead_core (S : List SvcD) (r : RuleD) : leadB (S.map SvcD.core) r.core = leadB S r := by
 unfold leadB
 show ((r.P.all fun p => thereB (S.map SvcD.core) p.1) && (r.mi == 0 || thereB (S.map SvcD.core) r.mi)) = _
 rw [thereB_core]
 simp only [thereB_core]
theorem chkC_core (c : ConfD) : chkC c.core = chkC c := by
 have h1 : allAt svcB [] (c.S.map SvcD.core) = allAt svcB [] c.S := allAt_map svcB svcB SvcD.core svcB_core c.S []
 have h2 : allAt (fun a e => endB a (c.S.map SvcD.core) e) [] c.E = allAt (fun a e => endB a c.S e) [] c.E := by
  congr 1
  funext a e
  unfold endB
  rw [thereB_core]
 have h3 : (c.R.map RuleD.core).all (leadB (c.S.map SvcD.core)) = c.R.all (leadB c.S) := by
  rw [List.all_map]
  congr 1
  funext r
  exact lead_core c.S r
 unfold chkC
 show (if 10 < (c.S.map SvcD.core).length ∨ 40 < c.E.length ∨ 4 < c.T.length then 2 else if allAt svcB [] (c.S.map SvcD.core) = false then 13 else if allAt (fun a e => endB a (c.S.map SvcD.core) e) [] c.E = false then 14 else if nerr (c.R.map RuleD.core) c.T.length ≠ 0 then nerr (c.R.map RuleD.core) c.T.length else if (c.R.map RuleD.core).all (leadB (c.S.map SvcD.core)) = false then 13 else if c.T.all rateB = false then 15 else if watchB c.core = false then 8 else if numB c.core = false then 8 else 0) = _
 rw [h1, h2, h3, nerr_coreC, List.length_map]
 rfl
theorem chkC_same {c d : ConfD} (h : d.core = c.core) : chkC d = chkC c := by rw [← chkC_core d, h, chkC_core]
theorem mem_core {c d : ConfD} (h : d.core = c.core) {r : RuleD} (hr : r ∈ d.R) : ∃ r0 ∈ c.R, r.core = r0.core := by
 have h1 : d.core.R = c.core.R := by rw [h]
 have h2 : r.core ∈ c.R.map RuleD.core := by
  have : r.core ∈ d.core.R := List.mem_map.2 ⟨r, hr, rfl⟩
  rw [h1] at this
  exact this
 obtain ⟨r0, h3, h4⟩ := List.mem_map.1 h2
 exact ⟨r0, h3, h4.symm⟩
theorem RuleFit.core {r r0 : RuleD} (h : RuleFit r0) (e : r.core = r0.core) : RuleFit r := by
 have h1 : RuleFit r0.core := h
 rw [← e] at h1
 exact h1
theorem core_S {c d : ConfD} (h : d.core = c.core) : d.S.map SvcD.core = c.S.map SvcD.core := by
 have h1 : d.core.S = c.core.S := by rw [h]
 exact h1
theorem core_E {c d : ConfD} (h : d.core = c.core) : d.E = c.E := by
 have h1 : d.core.E = c.core.E := by rw [h]
 exact h1
/-- blocks that are maps -/
def OfM (w : World) (X : Nat → Prop) : Prop := ∀ g, X g → ∃ es c, w.heap[g]? = some (.map es c)
theorem OfM.one {w : World} {b : Nat} {es : Array MapEntry} {c : Nat} (h : w.heap[b]? = some (.map es c)) : OfM w (fun g => g = b) := fun g hg => by subst hg; exact ⟨es, c, h⟩
theorem MapV.block {α : Type} {mk : α → Lit} {w : World} {k : TypeId} {b n : Nat} {f : α → Option Value} (h : MapV mk w k b n f) : ∃ es c, w.heap[b]? = some (.map es c) := by
 obtain ⟨D, ⟨es, c, h1, -⟩, -⟩ := h
 exact ⟨es, c, h1⟩
theorem MapV.ofM {α : Type} {mk : α → Lit} {w : World} {k : TypeId} {b n : Nat} {f : α → Option Value} (h : MapV mk w k b n f) : OfM w (fun g => g = b) := by
 obtain ⟨es, c, h1⟩ := h.block
 exact OfM.one h1
theorem cells_keepM {X : Nat → Prop} {w w' : World} (k : Keeps X w w') (hX : OfM w X) {b : Nat} {cs : Array Value} {T : TypeId} {f : Nat × Nat} (h : w.heap[b]? = some (.cells cs T f)) : w'.heap[b]? = some (.cells cs T f) :=
 (k.block b (Array.getElem?_eq_some_iff.1 h).1 (fun hx => by
  obtain ⟨es, c, h1⟩ := hX b hx
  rw [h] at h1
  cases h1)).trans h
theorem owns_keepM {X : Nat → Prop} {w w' : World} {base : Nat} {e : TypeId} {size : Nat} {v : Value} {n : Nat} {xs : List Value} (h : w.ownsRow base e size v n xs) (k : Keeps X w w') (hX : OfM w X) : w'.ownsRow base e size v n xs :=
 owns_keeps h k fun g hg hx => by
  obtain ⟨es, c, h1⟩ := hX g hx
  obtain ⟨cs, f, h2⟩ := ownsRow_kind h g hg
  rw [h1] at h2
  cases h2
theorem RuleOwn.keepM {X : Nat → Prop} {B : Nat} {w w' : World} {r : RuleD} (h : RuleOwn B w r) (k : Keeps X w w') (hX : OfM w X) : RuleOwn B w' r :=
 ⟨owns_keepM h.1 k hX, owns_keepM h.2.1 k hX, owns_keepM h.2.2.1 k hX, owns_keepM h.2.2.2 k hX⟩
theorem ConfOwn.keepM {X : Nat → Prop} {B : Nat} {w w' : World} {c : ConfD} (h : ConfOwn B w c) (k : Keeps X w w') (hX : OfM w X) : ConfOwn B w' c :=
 ⟨owns_keepM h.s k hX, fun s hs => owns_keepM (h.k s hs) k hX, owns_keepM h.e k hX, owns_keepM h.r k hX, fun r hr => (h.rr r hr).keepM k hX, owns_keepM h.t k hX⟩
theorem TabAt.keepM {X : Nat → Prop} {B b : Nat} {w w' : World} {Rs : List RuleD} {I : List Int} (h : TabAt B w b Rs I) (k : Keeps X w w') (hX : OfM w X) : TabAt B w' b Rs I := by
 obtain ⟨h1, ⟨vr, vi, h2, h3, h4⟩, h5⟩ := h
 exact ⟨h1, ⟨vr, vi, cells_keepM k hX h2, owns_keepM h3 k hX, owns_keepM h4 k hX⟩, fun r hr => (h5 r hr).keepM k hX⟩
theorem SnapBox.keepM {X : Nat → Prop} {w w' : World} {b : Nat} {ver : Int} {d : ConfD} {T : Value} {bs br : Nat} {nb : Value} (h : SnapBox w b ver d T bs br nb) (k : Keeps X w w') (hX : OfM w X) : SnapBox w' b ver d T bs br nb := cells_keepM k hX h
theorem cell_keepM {X : Nat → Prop} {w w' : World} (k : Keeps X w w') (hX : OfM w X) {p : Addr} {u : Value} (h : w.cell? p = some u) : w'.cell? p = some u := by
 have hlt := World.block_lt_of_cell? w p h
 refine (k.cell hlt (fun hx => ?_)).trans h
 obtain ⟨es, c, h1⟩ := hX _ hx
 simp [World.cell?, h1] at h
theorem sl_keepM {α : Type} {enc : α → List Value} {size : Nat} {X : Nat → Prop} {w w' : World} {v : Value} {xs : List α} (_hsz : 0 < size) (_hs : ∀ x, (enc x).length = size) (h : Sl enc size w v xs) (k : Keeps X w w') (hX : OfM w X) : Sl enc size w' v xs := by
 obtain ⟨h1, a, cap, h2, hcap, h3⟩ := h
 refine ⟨h1, a, cap, h2, hcap, fun i x hi => ?_⟩
 obtain ⟨b, off, ha, hb, hc⟩ := h3 i x hi
 exact ⟨b, off, ha, Nat.lt_of_lt_of_le hb k.size, fun j u hu => cell_keepM k hX (hc j u hu)⟩
theorem RingNew.keepM {X : Nat → Prop} {base : Nat} {w w' : World} {r : Value} {n : Nat} {P : List (Int × Int)} (h : Rg.RingNew base w r n P) (k : Keeps X w w') (hX : OfM w X) : Rg.RingNew base w' r n P := by
 obtain ⟨h0, h00, B, a, cap, h1, h2, h3, h4⟩ := h
 exact ⟨h0, h00, B, a, cap, h1, cells_keepM k hX h2, sl_keepM (by decide) Rg.encQ_len h3 k hX, h4⟩
theorem MapV.keepB {α : Type} {mk : α → Lit} {w w' : World} {k : TypeId} {b n : Nat} {f : α → Option Value} (h : MapV mk w k b n f) (e : w'.heap[b]? = w.heap[b]?) : MapV mk w' k b n f := by
 obtain ⟨D, ⟨es, c, h1, h2⟩, h3⟩ := h
 exact ⟨D, ⟨es, c, e.trans h1, h2⟩, h3⟩
theorem svcF_succ {S : List SvcD} (hn : (S.map SvcD.id).Nodup) (k : Nat) (hk : k < S.length) (id : Int) : svcF (S.take (k + 1)) id = if id = S[k].id then some S[k].val else svcF (S.take k) id := by
 unfold svcF
 rw [take_snoc S k hk, List.find?_append]
 by_cases h : id = S[k].id
 ·subst h
  rw [if_pos rfl]
  have h0 : (S.take k).find? (fun s => s.id == S[k].id) = none := by
   rw [List.find?_eq_none]
   intro s hs he
   obtain ⟨i, hi, rfl⟩ := List.getElem_of_mem hs
   have hik : i < k := by rw [List.length_take] at hi; omega
   have := List.pairwise_iff_getElem.1 (List.pairwise_map.1 hn) i k (by omega) hk hik
   rw [List.getElem_take] at he
   exact this (by simpa using he)
  rw [h0]
  simp
 ·rw [if_neg h]
  have h1 : (S[k].id == id) = false := by simp; exact fun e => h e.symm
  simp [h1]
theorem there_succ (S : List SvcD) (k : Nat) (hk : k < S.length) (id : Int) : thereB (S.take (k + 1)) id = (thereB (S.take k) id || S[k].id == id) := by
 unfold thereB
 rw [take_snoc S k hk, List.any_append]
 simp
end Go.Proofs.YtnnddjmdpplolaaGreatDoor
