import Derived.Test.YtoaiakhnnfbkdaaGreatDoorZsn
import Derived.Test.YtoaiakhnnfbkdaaGreatDoorZrw
import Derived.Test.YtoaiakhnnfbkdaaGreatDoorSkF
set_option maxRecDepth 100000
set_option maxHeartbeats 32000000
namespace Go.Proofs.YtoaiakhnnfbkdaaGreatDoor
open Go.ChangeShapes Go.WideShapes Go.ChangeAt Go.RowKit Go.Lib Go.Shelf Go.Maps
theorem nerr_zero {R : List RuleD} {n : Int} (h : nerr R n = 0) : R.length <= 20 /\ ∀ r ∈ R,rchk r n = 0 := by
 unfold nerr at h;split at h
 ·cases h
 ·rename_i h20;refine ⟨by omega,fun r hr => ?_⟩
  cases hf : (R.map (rchk · n)).find? (· != 0) with
  | none =>
   have := List.find?_eq_none.1 hf (rchk r n) (List.mem_map.2 ⟨r,hr,rfl⟩)
   simpa using this
  | some z =>
   rw [hf] at h;have h0 : z = 0 := h;have := List.find?_some hf;rw [h0] at this;cases this
theorem hchk_len {L : List HeadD} (h : hchk L = 0) : L.length <= 8 := by
 unfold hchk at h;split at h
 ·cases h
 ·omega
theorem rchk_len {r : RuleD} {n : Int} (h : rchk r n = 0) : r.H.length <= 8 /\ r.S.length <= 8 /\ r.D.length <= 8 := by
 unfold rchk at h;split at h
 ·rename_i h1; exact absurd h h1
 rename_i h1;split at h
 ·rename_i h2; exact absurd h h2
 split at h
 ·cases h
 split at h
 ·cases h
 split at h
 ·rename_i h5; exact absurd h h5
 rename_i h5;have h1' : mchk (bl r.path) r.H = 0 := by omega
 have h5' : wrchk r.pre r.S r.D = 0 := by omega
 clear h
 have h1'' : hchk r.H = 0 := by
  unfold mchk at h1';split at h1'
  ·exact h1'
  ·cases h1'
 unfold wrchk at h5';split at h5'
 ·cases h5'
 split at h5'
 ·rename_i h6; exact absurd h5' h6
 rename_i h6;split at h5'
 ·cases h5'
 ·exact ⟨hchk_len h1'',hchk_len (by omega),by omega⟩
theorem right_len {c : ConfD} (h : chkC c = 0) (hf : ConfFit c) : LenC c := by
 obtain ⟨-,-,-,h2,-,h3,-⟩ := chkC_ends h;refine ⟨fun s hs => ?_,fun r hr => ?_⟩
 ·rw [allAt_spec] at h2;obtain ⟨k,hk,rfl⟩ := List.getElem_of_mem hs;have := h2 k hk;simp only [svcB,Bool.and_eq_true,decide_eq_true_eq] at this;exact Nat.le_trans this.1.1.1.1.1.1.2 (by decide)
 ·obtain ⟨l1,l2,l3⟩ := rchk_len ((nerr_zero h3).2 r hr);exact ⟨by omega,(hf.2.2.1 r hr).1.2.2.2.2.2.2,by omega,by omega⟩
theorem owns_mono_conf {B B' : Nat} {w : World} {c : ConfD} (h : ConfOwn B w c) (hB : B' <= B) : ConfOwn B' w c :=
 ⟨owns_mono h.s hB,fun s hs => owns_mono (h.k s hs) hB,owns_mono h.e hB,owns_mono h.r hB,fun r hr => (h.rr r hr).mono hB,owns_mono h.t hB⟩
theorem TabAt.mono {B B' b : Nat} {w : World} {Rs : List RuleD} {I : List Int} (h : TabAt B w b Rs I) (hB : B' <= B) : TabAt B' w b Rs I := by
 obtain ⟨h1,⟨vr,vi,h2,h3,h4⟩,h5⟩ := h;exact ⟨Nat.le_trans hB h1,⟨vr,vi,h2,owns_mono h3 hB,owns_mono h4 hB⟩,fun r hr => (h5 r hr).mono hB⟩
def snapV (ver : Int) (d : ConfD) (T m1 m2 nb : Value) : List Value := .int .i64 ver :: (encC d ++ [T,m1,m2,nb])
structure GN (W : World) (ver : Int) (d : ConfD) (T : Value) (L : Nat -> Bool) (X : Nat -> Value) (w' : World) : Prop where
 ne : L 6 = true -> L 10 = true -> X 38 ≠ X 42
 bl : L 12 = true -> X 44 = .agg (snapV ver d T (X 38) (X 42) (X 43)).toArray
 bx : L 13 = true -> ∃ b,X 45 = .pointer (some ⟨b,0,none⟩) /\ W.heap.size <= b /\ w'.heap[b]? = some (.cells (snapV ver d T (X 38) (X 42) (X 43)).toArray 45 (0,0))
 asg : L 14 = true -> X 10 = X 45
section
variable {α : Type} {mk : α -> Lit} {k : TypeId} {b n : Nat} {f : α -> Option Value}
theorem wp_mv_put [DecidableEq α] {w : World} {o : Oper} {a : Act} {K : Act -> World -> Prop} {Q : Exit -> Act -> World -> Prop} (m x v : Operand) (t : TypeId) (hop : o.op = Op.mapUpdate t m x v) {e : TypeId} (h : MapV mk w k b n f) (hmk : ∀ x y,mk x = mk y -> x = y) (Ky : Keyed Tryz.prog k) (ht : Tryz.prog.underlying t = some (.map k e)) (hn : n < maxLen)
  (hm : a.eval m = .map (some b)) (key val : Value) (hx : a.eval x = key) (hv : a.eval v = val) {y : α} (hkey : keyOf Tryz.prog k key = some (mk y))
  (hK : ∀ w',MapV mk w' k b (n + 1) (fun z => if z = y then some val else f z) -> w.mapTurned w' b -> K (a.put o.dst undef) w') : o.wp Tryz.prog a w K Q := by
 obtain ⟨w',hrun,r1,r2⟩ := h.put hmk Ky ht hn hkey (val := val);unfold Oper.wp;simp [execOp,hop,hm,hx,hv,hrun,Result.andThen];exact hK w' r1 r2
theorem mapV_empty (mk : α -> Lit) {w : World} (k : TypeId) {b : Nat} (h : w.heap[b]? = some (.map #[] 0)) : MapV mk w k b 0 (fun _ => none) :=
 ⟨_,⟨#[],0,h,⟨by simp,MapKept.stamped_empty 0,by simp⟩,Nat.le_refl _,rfl⟩,fun _ _ => rfl,fun _ => rfl⟩
end
structure NewS (w0 wr : World) (b : Nat) (ver : Int) (d : ConfD) (bt qa qb : Nat) (nb : Value) (Rs : List RuleD) (b7 k : Nat) : Prop where
 ext : Ext w0 wr
 hb : w0.heap.size <= b
 hqa : w0.heap.size <= qa
 hqb : w0.heap.size <= qb
 ne : qa ≠ qb
 box : SnapBox wr b ver d (.pointer (some ⟨bt,0,none⟩)) qa qb nb
 own : ConfOwn w0.heap.size wr d
 tab : TabAt w0.heap.size wr bt Rs (rowR d.R)
 bx : BoxC wr b7 d
 sm : MapV (Lit.int .i64) wr 3 qa k (svcF (d.S.take k))
 rm : ∃ g,MapV (Lit.int .i64) wr 3 qb k g /\ (∀ id,(g id).isSome = thereB (d.S.take k) id) /\ ∀ id v,g id = some v -> Rg.RingNew w0.heap.size wr v (Rg.ends (idsAt d.E id)).length (Rg.pointsOf 16 (idsAt d.E id))
 nob : Rg.RingNew w0.heap.size wr nb (Rg.ends []).length (Rg.pointsOf 16 [])
structure NewT (w0 wr : World) (b : Nat) (ver : Int) (d : ConfD) (bt qa qb : Nat) (nb : Value) (Rs : List RuleD) (b7 k : Nat) : Prop where
 ext : Ext w0 wr
 hb : w0.heap.size <= b
 hqa : w0.heap.size <= qa
 hqb : w0.heap.size <= qb
 ne : qa ≠ qb
 box : SnapBox wr b ver d (.pointer (some ⟨bt,0,none⟩)) qa qb nb
 own : ConfOwn w0.heap.size wr d
 tab : TabAt w0.heap.size wr bt Rs (rowR d.R)
 bx : BoxC wr b7 d
 sm : MapV (Lit.int .i64) wr 3 qa (k + 1) (svcF (d.S.take (k + 1)))
 rm : ∃ g,MapV (Lit.int .i64) wr 3 qb k g /\ (∀ id,(g id).isSome = thereB (d.S.take k) id) /\ ∀ id v,g id = some v -> Rg.RingNew w0.heap.size wr v (Rg.ends (idsAt d.E id)).length (Rg.pointsOf 16 (idsAt d.E id))
 nob : Rg.RingNew w0.heap.size wr nb (Rg.ends []).length (Rg.pointsOf 16 [])
section
variable {w0 w w' : World} {b : Nat} {ver : Int} {d : ConfD} {bt qa qb : Nat} {nb : Value} {Rs : List RuleD} {b7 k : Nat}
theorem NewS.keep (h : NewS w0 w b ver d bt qa qb nb Rs b7 k) (e : Ext w w') : NewS w0 w' b ver d bt qa qb nb Rs b7 k := by
 obtain ⟨g,r1,r2,r3⟩ := h.rm;exact ⟨h.ext.trans e,h.hb,h.hqa,h.hqb,h.ne,h.box.ext e,h.own.ext e,h.tab.ext e,h.bx.ext e,h.sm.ext e,⟨g,r1.ext e,r2,fun id v hv => (r3 id v hv).ext e⟩,h.nob.ext e⟩
theorem NewT.keep (h : NewT w0 w b ver d bt qa qb nb Rs b7 k) (e : Ext w w') : NewT w0 w' b ver d bt qa qb nb Rs b7 k := by
 obtain ⟨g,r1,r2,r3⟩ := h.rm;exact ⟨h.ext.trans e,h.hb,h.hqa,h.hqb,h.ne,h.box.ext e,h.own.ext e,h.tab.ext e,h.bx.ext e,h.sm.ext e,⟨g,r1.ext e,r2,fun id v hv => (r3 id v hv).ext e⟩,h.nob.ext e⟩
theorem turned_keeps {q : Nat} (h : w.mapTurned w' q) : Keeps (fun g => g = q) w w' := Keeps.of_grown h.grown (fun k hk => by cases hk; rfl)
theorem turned_other {q g : Nat} (h : w.mapTurned w' q) (hg : g < w.heap.size) (hne : g ≠ q) : w'.heap[g]? = w.heap[g]? := (turned_keeps h).block g hg hne
theorem NewS.putS (h : NewS w0 w b ver d bt qa qb nb Rs b7 k) (hn : (d.S.map SvcD.id).Nodup) (hk : k < d.S.length) (ht : w.mapTurned w' qa) (hm : MapV (Lit.int .i64) w' 3 qa (k + 1) (fun z => if z = d.S[k].id then some d.S[k].val else svcF (d.S.take k) z)) : NewT w0 w' b ver d bt qa qb nb Rs b7 k := by
 have hK := turned_keeps ht;have hX : OfM w (fun g => g = qa) := h.sm.ofM;obtain ⟨g,r1,r2,r3⟩ := h.rm;exact ⟨Keeps.ext h.ext hK (fun q hq => by have := h.hqa; omega),h.hb,h.hqa,h.hqb,h.ne,h.box.keepM hK hX,h.own.keepM hK hX,h.tab.keepM hK hX,cells_keepM hK hX h.bx,hm.congr (fun z => (svcF_succ hn k hk z).symm),⟨g,r1.keepB (turned_other ht r1.lt h.ne.symm),r2,fun id v hv => RingNew.keepM (r3 id v hv) hK hX⟩,RingNew.keepM h.nob hK hX⟩
theorem NewT.putR (h : NewT w0 w b ver d bt qa qb nb Rs b7 k) (hk : k < d.S.length) (v : Value) (hr : Rg.RingNew w0.heap.size w v (Rg.ends (idsAt d.E d.S[k].id)).length (Rg.pointsOf 16 (idsAt d.E d.S[k].id))) (ht : w.mapTurned w' qb) {g : Int -> Option Value} (hm : MapV (Lit.int .i64) w' 3 qb (k + 1) (fun z => if z = d.S[k].id then some v else g z))
  (r2 : ∀ id,(g id).isSome = thereB (d.S.take k) id) (r3 : ∀ id v,g id = some v -> Rg.RingNew w0.heap.size w v (Rg.ends (idsAt d.E id)).length (Rg.pointsOf 16 (idsAt d.E id))) : NewS w0 w' b ver d bt qa qb nb Rs b7 (k + 1) := by
 have hK := turned_keeps ht;obtain ⟨g0,q1,-⟩ := h.rm;have hX : OfM w (fun g => g = qb) := q1.ofM;refine ⟨Keeps.ext h.ext hK (fun q hq => by have := h.hqb; omega),h.hb,h.hqa,h.hqb,h.ne,h.box.keepM hK hX,h.own.keepM hK hX,h.tab.keepM hK hX,cells_keepM hK hX h.bx,h.sm.keepB (turned_other ht h.sm.lt h.ne),⟨_,hm,fun id => ?_,fun id u hu => ?_⟩,RingNew.keepM h.nob hK hX⟩
 ·show (if id = d.S[k].id then some v else g id).isSome = _;rw [there_succ d.S k hk,<- r2 id];by_cases e : id = d.S[k].id
  ·simp [e]
  ·have : (d.S[k].id == id) = false := (by simp; exact fun e' => e e'.symm);simp [e,this]
 ·have hu' : (if id = d.S[k].id then some v else g id) = some u := hu;by_cases e : id = d.S[k].id
  ·rw [if_pos e] at hu';cases hu';rw [e];exact RingNew.keepM hr hK hX
  ·rw [if_neg e] at hu';exact RingNew.keepM (r3 id u hu') hK hX
end
def PhM (W : World) (q n : Nat) (f : Int -> Option Value) : List Value -> World -> Prop
 | [],w' => Ext W w'
 | _ :: _,w' => ∃ w8 w9,Ext W w8 /\ w8.mapTurned w9 q /\ MapV (Lit.int .i64) w9 3 q n f /\ Ext w9 w'
theorem PhM.keep {W : World} {q n : Nat} {f : Int -> Option Value} : ∀ {vs : List Value} {w' w'' : World},PhM W q n f vs w' -> Ext w' w'' -> PhM W q n f vs w''
 | [],_,_,h,e => Ext.trans h e
 | _ :: _,_,_,⟨w8,w9,h1,h2,h3,h4⟩,e => ⟨w8,w9,h1,h2,h3,h4.trans e⟩
theorem PhM.x {W : World} {q n : Nat} {f : Int -> Option Value} {vs : List Value} {w' : World} (h : PhM W q n f vs w') (hl : vs.length <= 0) : Ext W w' := by
 rcases vs with _ | ⟨v,vs⟩
 ·exact h
 ·simp at hl
def PhR (W : World) (q n : Nat) (T : List EndD) (P : List (Int × Int)) (m : Nat) (id : Int) (g : Int -> Option Value) : List Value -> World -> Prop
 | [],w' => Ext W w'
 | [v],w' => w'.ownsRow W.heap.size 53 3 v T.length (T.flatMap encE) /\ Ext W w'
 | [_,v],w' => w'.ownsRow W.heap.size 3 1 v T.length ((T.map EndD.id).flatMap encI) /\ Ext W w'
 | [_,_,v],w' => Rg.RingNew W.heap.size w' v m P /\ Ext W w'
 | _ :: _ :: _ :: _ :: _,w' => ∃ w8 w9 r,Ext W w8 /\ Rg.RingNew W.heap.size w8 r m P /\ w8.mapTurned w9 q /\ MapV (Lit.int .i64) w9 3 q (n + 1) (fun z => if z = id then some r else g z) /\ Ext w9 w'
theorem PhR.keep {W : World} {q n m : Nat} {T : List EndD} {P : List (Int × Int)} {id : Int} {g : Int -> Option Value} : ∀ {vs : List Value} {w' w'' : World},PhR W q n T P m id g vs w' -> Ext w' w'' -> PhR W q n T P m id g vs w''
 | [],_,_,h,e => Ext.trans h e
 | [_],_,_,⟨h1,h2⟩,e => ⟨owns_ext h1 e,h2.trans e⟩
 | [_,_],_,_,⟨h1,h2⟩,e => ⟨owns_ext h1 e,h2.trans e⟩
 | [_,_,_],_,_,⟨h1,h2⟩,e => ⟨h1.ext e,h2.trans e⟩
 | _ :: _ :: _ :: _ :: _,_,_,⟨w8,w9,r,h1,h2,h4,h5,h6⟩,e => ⟨w8,w9,r,h1,h2,h4,h5,h6.trans e⟩
theorem PhR.x {W : World} {q n m : Nat} {T : List EndD} {P : List (Int × Int)} {id : Int} {g : Int -> Option Value} {vs : List Value} {w' : World} (h : PhR W q n T P m id g vs w') (hl : vs.length <= 3) : Ext W w' := by
 rcases vs with _ | ⟨v,_ | ⟨v2,_ | ⟨v3,_ | ⟨v4,vs⟩⟩⟩⟩
 ·exact h
 ·exact h.2
 ·exact h.2
 ·exact h.2
 ·simp at hl
theorem GN.ext {W : World} {ver : Int} {d : ConfD} {T : Value} {L : Nat -> Bool} {X : Nat -> Value} {w' w'' : World} (h : GN W ver d T L X w') (e : Ext w' w'') : GN W ver d T L X w'' :=
 ⟨h.ne,h.bl,fun hl => by
  obtain ⟨b,h1,h2,h3⟩ := h.bx hl
  exact ⟨b,h1,h2,(e.block b (zg h3)).trans h3⟩,h.asg⟩
theorem GN.put {W : World} {ver : Int} {d : ConfD} {T : Value} {L : Nat -> Bool} {X : Nat -> Value} {w' : World} (h : GN W ver d T L X w') (k : Nat) (t : Option Tmp) (v : Value) (hk : (k == 6 || k == 10 || k == 12 || k == 13 || k == 14) = false) (ht : (t == some 38 || t == some 42 || t == some 43 || t == some 44 || t == some 45 || t == some 10) = false) :
  GN W ver d T (fun q => q == k || L q) (putX X t v) w' := by
 simp only [Bool.or_eq_false_iff,beq_eq_false_iff_ne] at hk ht;obtain ⟨⟨⟨⟨k1,k2⟩,k3⟩,k4⟩,k5⟩ := hk;obtain ⟨⟨⟨⟨⟨t1,t2⟩,t3⟩,t4⟩,t5⟩,t6⟩ := ht;have q1 : ((6 : Nat) == k) = false := by simpa using fun e => k1 e.symm
 have q2 : ((10 : Nat) == k) = false := by simpa using fun e => k2 e.symm
 have q3 : ((12 : Nat) == k) = false := by simpa using fun e => k3 e.symm
 have q4 : ((13 : Nat) == k) = false := by simpa using fun e => k4 e.symm
 have q5 : ((14 : Nat) == k) = false := by simpa using fun e => k5 e.symm
 refine ⟨?_, ?_, ?_, ?_⟩
 ·simp only [q1,q2,Bool.false_or,putX,t1,t2,if_false];exact h.ne
 ·simp only [q3,Bool.false_or,putX,t1,t2,t3,t4,if_false];exact h.bl
 ·simp only [q4,Bool.false_or,putX,t1,t2,t3,t5,if_false];exact h.bx
 ·simp only [q5,Bool.false_or,putX,t5,t6,if_false];exact h.asg
end Go.Proofs.YtoaiakhnnfbkdaaGreatDoor
