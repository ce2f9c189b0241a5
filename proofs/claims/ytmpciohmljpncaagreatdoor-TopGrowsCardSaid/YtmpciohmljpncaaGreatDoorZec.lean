/- Merged texts (EvS22, EvLt, EvS23, EvS24, EvS25, EvS26, EvS27, EvS28, EvS29, EvS30, EvS31, EvS32, EvE1, WkTab). -/
import Derived.Test.YtmpciohmljpncaaGreatDoorZeb
import Derived.Below
import Derived.Laws.AppendOwn
import Derived.MapKept
import Derived.Lib.Join
import Derived.Test.YtmpciohmljpncaaGreatDoorProg
set_option linter.unusedSectionVars false
set_option linter.unusedSimpArgs false
set_option linter.unusedVariables false
set_option linter.unnecessarySimpa false
set_option linter.deprecated false
namespace Go.Ev
def fitAll (P : Program) : Bool := P.funcs.toList.all fun f => (match f.body with | some c => fitsC f.ntmps c | none => true)
def nameAll (P : Program) : Bool := P.funcs.toList.all fun f => !(f.name == "runtime.NumGoroutine")
end Go.Ev
namespace Go.Ev
noncomputable section
/-! short words for what a memory holds -/
def tt : AV := .g (.bool true)
def ff : AV := .g (.bool false)
def i (n : Nat) : AV := .g (.int .i64 (.ofNat n))
def j (n : Nat) : AV := .g (.int .i64 (.negSucc (Nat.sub n 1)))
def u (n : Nat) : AV := .g (.int .u64 (.ofNat n))
def n (k : IntKind) (x : Nat) : AV := .g (.int k (.ofNat x))
def s (l : List Nat) : AV := .g (.string ⟨(l.map UInt8.ofNat).toArray⟩)
def e : AV := .g (.string ⟨#[]⟩)
def zp : AV := .g (.pointer none)
def zs : AV := .g (.slice none 0 0)
def zm : AV := .g (.map none)
def p (k o : Nat) : AV := .ptr k o
def sl (k o l c z : Nat) : AV := .slice k o l false c z
def sx (k o l c z : Nat) : AV := .slice k o l true c z
def m (k : Nat) : AV := .map k
def f (g : Nat) (a b : List AV) : AV := .func (.func g) a b
def fc (t : Nat) (a : AV) : AV := .iface t a
def a (l : List AV) : AV := .agg l
def tu (l : List AV) : AV := .tuple l
def c (l : List AV) : ABlk := .cells l
def b (l : List AV) : ABlk := .bytes l
def w (k : Nat) (l : List AEnt) : ABlk := .map l k
/-- a memory, written out -/
def ofL (l : List (Nat × ABlk)) (t : T ABlk) : T ABlk := List.rec t (fun p _ ih => ih.set p.1 p.2) l
def beqE (x y : AEnt) : Bool := beqA x.key y.key && beqA x.val y.val && Nat.beq x.born y.born
def beqEs : List AEnt → List AEnt → Bool
 | [], [] => true
 | x :: r, y :: q => beqE x y && beqEs r q
 | _, _ => false
def beqB : ABlk → ABlk → Bool
 | .cells x, .cells y => beqL x y
 | .bytes x, .bytes y => beqL x y
 | .map x k, .map y q => beqEs x y && Nat.beq k q
 | .iter m a b c, .iter m' a' b' c' => (match m, m' with | none, none => true | some x, some y => Nat.beq x y | _, _ => false) && Nat.beq a a' && decide (b = b') && Nat.beq c c'
 | _, _ => false
/-- a memory holds what is written -/
def holds (h : T ABlk) (l : List (Nat × ABlk)) : Bool := l.all fun p => match h.get p.1 with | some q => beqB q p.2 | none => false
end
end Go.Ev
namespace Go.Ev
/-! a run in pieces -/
theorem beqEs_eq : ∀ (x y : List AEnt), beqEs x y = true → x = y
 | [], [], _ => rfl
 | ⟨k, v, b⟩ :: r, ⟨k', v', b'⟩ :: q, h => by
  simp only [beqEs, beqE, Bool.and_eq_true, beq_eq] at h
  obtain ⟨⟨⟨h1, h2⟩, h3⟩, h4⟩ := h
  rw [beqA_eq _ _ h1, beqA_eq _ _ h2, of_decide_eq_true h3, beqEs_eq r q h4]
theorem beqB_eq (x y : ABlk) (h : beqB x y = true) : x = y := by
 cases x with
 | cells x => cases y <;> first | (rw [beqL_eq _ _ h]) | cases h
 | bytes x => cases y <;> first | (rw [beqL_eq _ _ h]) | cases h
 | map x k => cases y with
  | map y q =>
   simp only [beqB, Bool.and_eq_true, beq_eq] at h
   rw [beqEs_eq _ _ h.1, of_decide_eq_true h.2]
  | _ => cases h
 | iter m a b c => cases y with
  | iter m' a' b' c' =>
   simp only [beqB, Bool.and_eq_true, beq_eq] at h
   obtain ⟨⟨⟨h1, h2⟩, h3⟩, h4⟩ := h
   rw [of_decide_eq_true h2, of_decide_eq_true h3, of_decide_eq_true h4]
   cases m <;> cases m' <;> first | rfl | (simp at h1; rw [h1]) | cases h1
  | _ => cases h
 | siter s p => cases y <;> cases h
theorem ofL_get : ∀ (l : List (Nat × ABlk)) (t : T ABlk) (k : Nat) (b : ABlk), (ofL l t).get k = some b → (k, b) ∈ l ∨ t.get k = some b
 | [], t, k, b, h => .inr h
 | p :: r, t, k, b, h => by
  have h : ((ofL r t).set p.1 p.2).get k = some b := h
  rw [T.get_set] at h
  by_cases e : k = p.1
  ·rw [if_pos e] at h
   injection h with h
   exact .inl (by rw [e, ← h]; exact List.mem_cons_self)
  ·rw [if_neg e] at h
   rcases ofL_get r t k b h with h | h
   ·exact .inl (List.mem_cons_of_mem _ h)
   ·exact .inr h
theorem holds_get {h : T ABlk} {l : List (Nat × ABlk)} (H : holds h l = true) (k : Nat) (b : ABlk) (hk : (ofL l .leaf).get k = some b) : h.get k = some b := by
 rcases ofL_get l .leaf k b hk with h1 | h1
 ·have := List.all_eq_true.1 H _ h1
  simp only at this
  split at this
  ·rename_i q hq
   rw [hq, beqB_eq _ _ this]
  ·cases this
 ·rw [T.get_leaf] at h1; cases h1
/-- a memory that is known at least so -/
noncomputable def lit (l : List (Nat × ABlk)) (nx : Nat) : St := ⟨ofL l .leaf, nx⟩
noncomputable def isLit (s : St) (l : List (Nat × ABlk)) (nx : Nat) : Bool := Nat.ble s.nx nx && holds s.h l
theorem isLit_less {ι : Io} {s : St} {w : World} {l : List (Nat × ABlk)} {nx : Nat} (h : isLit s l nx = true) (HR : HRel ι s w) : Stp ι s w ι (lit l nx) w := by
 unfold isLit at h
 rw [Bool.and_eq_true, ble_eq] at h
 exact Stp.less HR (fun k b hk => holds_get h.2 k b hk) (of_decide_eq_true h.1)
/-! the head of a loop, round by round -/
noncomputable def sameF (f g : Fr) (l : List Nat) : Bool := (match g.ds with | [] => true | _ => false) && l.all fun t => match f.t.get t, g.t.get t with | some x, some y => beqA y x | _, _ => false
/-- one round -/
noncomputable def round1 (V : CodeF) (b : Code) (fr : Fr) (ks : List Nat) (s : St) : R St := match V b fr s with
 | .ok [o] => match o.e with
  | .normal => cond (sameF fr o.fr ks) (.ok o.s) (.err 301)
  | _ => .err 302
 | .ok _ => .err 303
 | .err c => .err c
noncomputable def rounds (V : CodeF) (b : Code) (fr : Fr) (ks : List Nat) (n : Nat) (s : St) : R St :=
 Nat.rec (motive := fun _ => St → R St) (fun s => .ok s) (fun _ ih s => match round1 V b fr ks s with | .ok s => ih s | .err c => .err c) n s
section
variable {E : Env} {V : CodeF} {b : Code} {fr : Fr} {ks : List Nat}
/-- from one memory to another, at the head of a loop -/
def Goes (E : Env) (b : Code) (fr : Fr) (s s' : St) : Prop := ∀ n, fitsC n b = true → ∀ ι w a, FRel ι n fr a → HRel ι s w → ∀ Q, (∀ ι' w' a', Stp ι s w ι' s' w' → FRel ι' n fr a' → LoopFrom E.P Q b a' w') → LoopFrom E.P Q b a w
theorem Goes.trans {s s' s'' : St} (h : Goes E b fr s s') (h' : Goes E b fr s' s'') : Goes E b fr s s'' :=
 fun n hf ι w a H HR Q hQ => h n hf ι w a H HR Q fun ι' w' a' hst hfr => h' n hf ι' w' a' hfr hst.h Q fun ι'' w'' a'' hst' hfr' => hQ ι'' w'' a'' (hst.trans hst') hfr'
theorem Goes.less {s : St} {l : List (Nat × ABlk)} {nx : Nat} (h : isLit s l nx = true) : Goes E b fr s (lit l nx) :=
 fun _ _ ι w a H HR _ hQ => hQ ι w a (isLit_less h HR) H
theorem round1_ok (hV : CodeOk E V b) (hks : ∀ t v, fr.t.get t = some v → t ∈ ks) (hds : fr.ds = []) {s s' : St} (h : round1 V b fr ks s = .ok s') : Goes E b fr s s' := by
 intro n hf ι w a H HR Q hQ
 unfold round1 at h
 split at h
 ·rename_i o ho
  split at h
  ·rename_i he
   cases hsm : sameF fr o.fr ks with
   | false => rw [hsm] at h; cases h
   | true =>
    rw [hsm] at h
    injection h with h; subst h
    refine loop_round (hV n fr s [o] ho hf ι w a H HR _ fun p hp a' w' ι' hst hfr => ?_)
    have hp := List.mem_singleton.1 hp
    subst hp
    rw [he]
    refine hQ ι' w' a' hst ⟨fun t v ht => ?_, hfr.size, ?_⟩
    ·unfold sameF at hsm
     rw [Bool.and_eq_true] at hsm
     have := List.all_eq_true.1 hsm.2 t (hks t v ht)
     rw [ht] at this
     split at this
     ·rename_i x y hx hy
      injection hx with hx; subst hx
      have := beqA_eq _ _ this
      subst this
      exact hfr.slot t _ hy
     ·cases this
    ·unfold sameF at hsm
     rw [Bool.and_eq_true] at hsm
     have h1 := hsm.1
     split at h1
     ·rename_i hn
      rw [hds]
      have := hfr.ds
      rw [hn] at this
      exact this
     ·cases h1
  ·cases h
 ·cases h
 ·cases h
theorem rounds_ok (hV : CodeOk E V b) (hks : ∀ t v, fr.t.get t = some v → t ∈ ks) (hds : fr.ds = []) : ∀ (n : Nat) (s s' : St), rounds V b fr ks n s = .ok s' → Goes E b fr s s'
 | 0, s, s', h => by
  have h : R.ok s = .ok s' := h
  injection h with h; subst h
  exact fun _ _ ι w a H HR _ hQ => hQ ι w a (Stp.refl HR) H
 | n + 1, s, s', h => by
  have h : (match round1 V b fr ks s with | .ok s => rounds V b fr ks n s | .err c => .err c) = .ok s' := h
  split at h
  ·rename_i s1 h1
   exact (round1_ok hV hks hds h1).trans (rounds_ok hV hks hds n s1 s' h)
  ·cases h
/-- a piece, as the kernel runs it -/
noncomputable def piece (V : CodeF) (b : Code) (fr : Fr) (ks : List Nat) (n : Nat) (A : List (Nat × ABlk)) (na : Nat) (B : List (Nat × ABlk)) (nb : Nat) : Bool :=
 match rounds V b fr ks n (lit A na) with
 | .ok s => isLit s B nb
 | .err _ => false
theorem piece_ok (hV : CodeOk E V b) (hks : ∀ t v, fr.t.get t = some v → t ∈ ks) (hds : fr.ds = []) {n : Nat} {A B : List (Nat × ABlk)} {na nb : Nat} (h : piece V b fr ks n A na B nb = true) : Goes E b fr (lit A na) (lit B nb) := by
 unfold piece at h
 split at h
 ·rename_i s hs
  exact (rounds_ok hV hks hds n _ s hs).trans (Goes.less h)
 ·cases h
/-- a loop whose rounds are run ahead -/
theorem loop_goes (hL : LoopOk E V b) {s s' : St} (hg : Goes E b fr s s') {r : List Out} (h : V (.loop b) fr s' = .ok r) : ∀ n, fitsC n b = true → ∀ ι w a, FRel ι n fr a → HRel ι s w → ∀ Q, Comes' ι n s w r Q → LoopFrom E.P Q b a w :=
 fun n hf ι w a H HR Q hQ => hg n hf ι w a H HR Q fun ι' w' a' hst hfr => hL n fr s' r h hf ι' w' a' hfr hst.h Q fun p hp a'' w'' ι'' hst' hfr' => hQ p hp a'' w'' ι'' (hst.trans hst') hfr'
end
open Classical in
/-- one place at which code is known to come to r -/
noncomputable def oneF (c0 : Code) (fr0 : Fr) (s0 : St) (r : List Out) : CodeF := fun c fr s => if c = c0 ∧ fr = fr0 ∧ s = s0 then .ok r else .err 300
theorem oneF_at (c0 : Code) (fr0 : Fr) (s0 : St) (r : List Out) : oneF c0 fr0 s0 r c0 fr0 s0 = .ok r := by unfold oneF; rw [if_pos ⟨rfl, rfl, rfl⟩]
theorem oneF_ok {E : Env} {c0 : Code} {fr0 : Fr} {s0 : St} {r : List Out} (h : ∀ n, fitsC n c0 = true → ∀ ι w a, FRel ι n fr0 a → HRel ι s0 w → ∀ Q, Comes' ι n s0 w r Q → c0.wp E.P Q a w) : ∀ c, CodeOk E (oneF c0 fr0 s0 r) c := by
 intro c n fr s r' hr hf ι w a H HR Q hQ
 unfold oneF at hr
 split at hr
 ·rename_i e
  obtain ⟨rfl, rfl, rfl⟩ := e
  injection hr with hr; subst hr
  exact h n hf ι w a H HR Q hQ
 ·cases hr
/-- a function's contract at one memory: what it needs of it, and what it leaves -/
noncomputable def at1 (args0 : List AV) (A : List (Nat × ABlk)) (na : Nat) (r : List (AV × St)) : List AV → St → R (List (AV × St)) := fun args s =>
 cond (beqL args args0 && isLit s A na) (.ok r) (.err 310)
theorem at1_ok {E : Env} {f : FuncId} {args0 : List AV} {A : List (Nat × ABlk)} {na : Nat} {r : List (AV × St)} (h : ∀ ι w vs, HRel ι (lit A na) w → relL ι args0 vs → CallOk E f vs ι (lit A na) w r) :
  ∀ args s l, at1 args0 A na r args s = .ok l → ∀ ι w vs, HRel ι s w → relL ι args vs → CallOk E f vs ι s w l := by
 intro args s l hl ι w vs HR hv
 unfold at1 at hl
 cases hc : beqL args args0 && isLit s A na with
 | false => rw [hc] at hl; cases hl
 | true =>
  rw [hc] at hl
  injection hl with hl; subst hl
  rw [Bool.and_eq_true] at hc
  have e := beqL_eq _ _ hc.1
  subst e
  have hst := isLit_less hc.2 HR
  rcases h ι w vs hst.h hv with ⟨x, w', h1, s', h2, ι', h3, h4⟩ | ⟨h1, h2⟩
  ·exact .inl ⟨x, w', h1, s', h2, ι', hst.trans h3, h4⟩
  ·exact .inr ⟨h1, h2.mono fun e w' ⟨x, he, s', k1, ι', k2, k3⟩ => ⟨x, he, s', k1, ι', hst.trans k2, k3⟩⟩
end Go.Ev
namespace Go.Ev
open Go.RowKit (Below)
section
variable {E : Env} {V : CodeF} {b : Code} {fr : Fr}
/-- a block that is a loop whose rounds are run ahead -/
theorem bl_goes {id : Nat} (hL : LoopOk E V b) {s s' : St} (hg : Goes E b fr s s') {r : List Out} (h : sBlock id (V (.loop b) fr s') = .ok r) :
  ∀ n, fitsC n (.block id (.loop b)) = true → ∀ ι w a, FRel ι n fr a → HRel ι s w → ∀ Q, Comes' ι n s w r Q → (Code.block id (.loop b)).wp E.P Q a w := by
 intro n hfit ι w a H HR Q hQ
 unfold sBlock at h
 split at h
 ·rename_i l hl
  refine wp_block (loop_of (loop_goes hL hg hl n hfit ι w a H HR _ (Comes'.seq h hQ fun o r' ho a' w' ι' hst hfr hc => ?_)))
  cases he : o.e with
  | normal =>
   rw [he] at ho
   injection ho with ho; subst ho
   have := hc o (List.mem_singleton.2 rfl) a' w' ι' (Stp.refl hst.h) hfr
   rw [he] at this; exact this
  | ret =>
   rw [he] at ho
   injection ho with ho; subst ho
   have := hc o (List.mem_singleton.2 rfl) a' w' ι' (Stp.refl hst.h) hfr
   rw [he] at this; exact this
  | exit id' =>
   rw [he] at ho
   injection ho with ho; subst ho
   have := hc _ (List.mem_singleton.2 rfl) a' w' ι' (by cases Nat.beq id' id <;> exact Stp.refl hst.h) (by cases Nat.beq id' id <;> exact hfr)
   rw [beq_eq] at this
   simp only [toExit, Exit.inBlock]
   by_cases hid : id' = id
   ·simp only [hid, decide_true, cond_true, toExit] at this
    rw [if_pos hid]; exact this
   ·simp only [hid, decide_false, cond_false, he, toExit] at this
    rw [if_neg hid]; exact this
 ·cases h
end
theorem CallOk.less {E : Env} {f : FuncId} {vs : List Value} {ι : Io} {s : St} {w : World} {v : AV} {s' : St} {l : List (Nat × ABlk)} {nx : Nat} (h : CallOk E f vs ι s w [(v, s')]) (hl : isLit s' l nx = true) : CallOk E f vs ι s w [(v, lit l nx)] := by
 have key : ∀ x w', Ret ι s w [(v, s')] x w' → Ret ι s w [(v, lit l nx)] x w' := by
  rintro x w' ⟨p, hp, ι', h1, h2⟩
  have hp := List.mem_singleton.1 hp
  subst hp
  exact ⟨_, List.mem_singleton.2 rfl, ι', h1.trans (isLit_less hl h1.h), h2⟩
 rcases h with ⟨x, w', h1, h2⟩ | ⟨h1, h2⟩
 ·exact .inl ⟨x, w', h1, key x w' h2⟩
 ·exact .inr ⟨h1, h2.mono fun e w' ⟨x, he, hr⟩ => ⟨x, he, key x w' hr⟩⟩
theorem noCons_ok {E : Env} : ConsOk (E := E) fun _ => none := fun f k h => by cases h
/-- a call whose body is known to come to one end -/
theorem call_at {E : Env} (hE : EnvOk E) {f : FuncId} {fn : Func} {body : Code} (hfn : E.fn.get f = some (some fn)) (hb : fn.body = some body) {args : List AV} (hlen : Nat.ble args.length fn.ntmps = true) {s : St} {o : Out} {v : AV}
  (h : ∀ n, fitsC n body = true → ∀ ι w a, FRel ι n ⟨enterF 0 args .leaf, []⟩ a → HRel ι s w → ∀ Q, Comes' ι n s w [o] Q → body.wp E.P Q a w)
  (he : ∀ id, o.e ≠ .exit id) (hds : o.fr.ds = []) (hv : aresults E fn o.fr o.s = .ok v) : ∀ ι w vs, HRel ι s w → relL ι args vs → CallOk E f vs ι s w [(v, o.s)] := by
 intro ι w vs HR hrel
 refine call_ok hE noCons_ok (oneF_ok h) f args s _ ?_ ι w vs HR hrel
 unfold callOf enter
 simp only [hfn, hb, hlen, cond_true, oneF_at, bindL]
 unfold atEnd
 cases hoe : o.e with
 | exit id => exact absurd hoe (he id)
 | normal => simp only [hds, runDefers, mapR, hv, tell]
 | ret => simp only [hds, runDefers, mapR, hv, tell]
/-- how a loop's rounds end, as the kernel runs it -/
noncomputable def endsAt (E : Env) (V : CodeF) (id : Nat) (b : Code) (fn : Func) (fr : Fr) (A : List (Nat × ABlk)) (na : Nat) (v : AV) (B : List (Nat × ABlk)) (nb : Nat) : Bool :=
 match sBlock id (V (.loop b) fr (lit A na)) with
 | .ok [o] => (match o.e with | .exit _ => false | _ => true) && (match o.fr.ds with | [] => true | _ => false) && (match aresults E fn o.fr o.s with | .ok v' => beqA v' v | .err _ => false) && isLit o.s B nb
 | _ => false
/-- a function that is a loop and no more, its rounds run ahead -/
theorem loop_call {E : Env} (hE : EnvOk E) {C : Cons} (hC : ConsOk (E := E) C) {m : Nat} {f : FuncId} {fn : Func} {id : Nat} {b : Code} (hfn : E.fn.get f = some (some fn)) (hb : fn.body = some (.block id (.loop b))) {args : List AV} (hlen : Nat.ble args.length fn.ntmps = true)
  {A A' B : List (Nat × ABlk)} {na na' nb : Nat} {v : AV} (hg : Goes E b ⟨enterF 0 args .leaf, []⟩ (lit A na) (lit A' na')) (h : endsAt E (ev E C m) id b fn ⟨enterF 0 args .leaf, []⟩ A' na' v B nb = true) :
  ∀ ι w vs, HRel ι (lit A na) w → relL ι args vs → CallOk E f vs ι (lit A na) w [(v, lit B nb)] := by
 intro ι w vs HR hrel
 unfold endsAt at h
 split at h
 ·rename_i o ho
  simp only [Bool.and_eq_true] at h
  obtain ⟨⟨⟨h1, h2⟩, h3⟩, h4⟩ := h
  split at h3
  ·rename_i v' hv'
   have := beqA_eq _ _ h3
   subst this
   refine (call_at hE hfn hb hlen (bl_goes ((ev_ok hE hC m).2 b) hg ho) (fun id' e => ?_) ?_ hv' ι w vs HR hrel).less h4
   ·rw [e] at h1; cases h1
   ·split at h2
    ·rename_i hn; exact hn
    ·cases h2
  ·cases h3
 ·cases h
/-- a call that is run at one memory -/
noncomputable def runsTo (F : CallF) (f : FuncId) (args : List AV) (A : List (Nat × ABlk)) (na : Nat) (v : AV) (B : List (Nat × ABlk)) (nb : Nat) : Bool :=
 match F f args (lit A na) with
 | .ok [(v', s)] => beqA v' v && isLit s B nb
 | _ => false
theorem runsTo_ok {E : Env} {F : CallF} (hF : FOk E F) {f : FuncId} {args : List AV} {A B : List (Nat × ABlk)} {na nb : Nat} {v : AV} (h : runsTo F f args A na v B nb = true) :
  ∀ ι w vs, HRel ι (lit A na) w → relL ι args vs → CallOk E f vs ι (lit A na) w [(v, lit B nb)] := by
 intro ι w vs HR hrel
 unfold runsTo at h
 split at h
 ·rename_i v' s hs
  rw [Bool.and_eq_true] at h
  have := beqA_eq _ _ h.1
  subst this
  exact (hF f args _ _ hs ι w vs HR hrel).less h.2
 ·cases h
/-- a call without arguments that comes to one value in all outcomes -/
noncomputable def allTo (F : CallF) (f : FuncId) (nx : Nat) (v : AV) : Bool := match F f [] ⟨.leaf, nx⟩ with
 | .ok l => l.all fun p => beqA p.1 v
 | .err _ => false
theorem HRel.none {w : World} {nx : Nat} : HRel (fun _ => none) ⟨.leaf, nx⟩ w :=
 ⟨fun k b h => (by rw [T.get_leaf] at h; cases h), fun k k' b b' l l' h => (by rw [T.get_leaf] at h; cases h), fun _ _ => rfl⟩
theorem allTo_ok {E : Env} {F : CallF} (hF : FOk E F) {f : FuncId} {nx : Nat} {v : Value} (h : allTo F f nx (.g v) = true) (hdet : ∀ ι x, rel ι (.g v) x → x = v) (w : World) :
  (∃ w', (callFunc f #[]).run E.P w = .ok (.value v) w' ∧ Below w.heap.size w w') ∨ ((callFunc f #[]).run E.P w = .ok (.enter f #[]) w ∧ Calls E.P f #[] w fun e w' => e = .returned v ∧ Below w.heap.size w w') := by
 unfold allTo at h
 split at h
 ·rename_i l hl
  have key : ∀ x w', Ret (fun _ => none) ⟨.leaf, nx⟩ w l x w' → x = v ∧ Below w.heap.size w w' := by
   rintro x w' ⟨p, hp, ι', h1, h2⟩
   have h3 := beqA_eq _ _ (List.all_eq_true.1 h p hp)
   rw [h3] at h2
   exact ⟨hdet _ _ h2, h1.os, h1.tape, h1.output, h1.size, fun k hk => h1.old k hk fun k' l' bb hb => by rw [T.get_leaf] at hb; cases hb⟩
  rcases hF f [] _ l hl _ w [] HRel.none rfl with ⟨x, w', h1, h2⟩ | ⟨h1, h2⟩
  ·obtain ⟨e, hb⟩ := key x w' h2
   subst e
   exact .inl ⟨w', h1, hb⟩
  ·refine .inr ⟨h1, h2.mono ?_⟩
   rintro e w' ⟨x, rfl, hr⟩
   obtain ⟨e, hb⟩ := key x w' hr
   subst e
   exact ⟨rfl, hb⟩
 ·cases h
end Go.Ev
namespace Go.Ev
/-! the program's tables, laid once as tries -/
noncomputable section
def alt {α : Type} (l : List α) : List α × List α := List.rec (motive := fun _ => List α × List α) ([], []) (fun x _ ih => (x :: ih.2, ih.1)) l
def ofList {α : Type} (f : Nat) (l : List α) : T α :=
  Nat.rec (motive := fun _ => List α → T α) (fun _ => .leaf) (fun _ ih l => List.rec (motive := fun _ => T α) .leaf (fun x r _ => .node (ih (alt r).1) (some x) (ih (alt r).2)) l) f l
def uOf (tr : T TypeInfo) (d : TypeDesc) : Option TypeDesc := match d with | .named _ u => (match tr.get u with | some j => some j.desc | none => none) | d => some d
def tyI (tr : T TypeInfo) (i : TypeInfo) : TyI :=
  { u := uOf tr i.desc, size := some i.size, zero := (match i.zero with | some v => ofV 8 v | none => none), agg := (match uOf tr i.desc with | some (.struct _) => true | some (.array _ _) => true | _ => false), small := Nat.ble i.bytes 1000000 }
def envF (P : Program) : Env := ⟨P, ofList 12 (P.types.toList.map (tyI (ofList 12 P.types.toList))), ofList 12 (P.funcs.toList.map some)⟩
end
theorem alt_get {α : Type} : ∀ (l : List α) (k : Nat), (alt l).1[k]? = l[2 * k]? ∧ (alt l).2[k]? = l[2 * k + 1]?
  | [], k => by simp [alt]
  | x :: r, k => by
    have ih := fun k => alt_get r k
    have e : alt (x :: r) = (x :: (alt r).2, (alt r).1) := rfl
    rw [e]
    constructor
    · cases k with
      | zero => rfl
      | succ k => simp only [List.getElem?_cons_succ, (ih k).2, show 2 * (k + 1) = 2 * k + 1 + 1 by omega]
    · simp only [(ih k).1, show 2 * k + 1 = 2 * k + 1 from rfl, List.getElem?_cons_succ]
theorem alt_len {α : Type} : ∀ (l : List α), 2 * (alt l).1.length ≤ l.length + 1 ∧ 2 * (alt l).2.length ≤ l.length
  | [] => by simp [alt]
  | x :: r => by
    have ih := alt_len r
    have e : alt (x :: r) = (x :: (alt r).2, (alt r).1) := rfl
    rw [e]
    simp only [List.length_cons]
    omega
theorem ofList_getP {α : Type} : ∀ (f : Nat) (l : List α) (g k : Nat), l.length < 2 ^ f → k ≤ g → (ofList f l).getP (pathF g k) = l[k]?
  | 0, l, g, k, hl, _ => by
    have : l = [] := by cases l <;> simp at hl ⊢
    subst this
    rfl
  | f + 1, [], g, k, _, _ => by simp; rfl
  | f + 1, x :: r, g, k, hl, hk => by
    have e : ofList (f + 1) (x :: r) = .node (ofList f (alt r).1) (some x) (ofList f (alt r).2) := rfl
    rw [e]
    have hlen := alt_len r
    have hl1 : (alt r).1.length < 2 ^ f := by
      have := Nat.pow_succ 2 f
      simp only [List.length_cons] at hl
      omega
    have hl2 : (alt r).2.length < 2 ^ f := by
      have := Nat.pow_succ 2 f
      simp only [List.length_cons] at hl
      omega
    cases g with
    | zero =>
      have : k = 0 := by omega
      subst this; rfl
    | succ g =>
      unfold pathF
      rw [beq_eq]
      by_cases h0 : k = 0
      · subst h0; rfl
      · simp only [h0, decide_false, cond_false, beq_eq]
        by_cases h1 : Nat.mod k 2 = 1
        · simp only [h1, decide_true, cond_true]
          have h1' : k % 2 = 1 := h1
          have ih := ofList_getP f (alt r).1 g (Nat.div k 2) hl1 (by show k / 2 ≤ g; omega)
          have hs : (T.node (ofList f (alt r).1) (some x) (ofList f (alt r).2)).getP (true :: pathF g (Nat.div k 2)) = (ofList f (alt r).1).getP (pathF g (Nat.div k 2)) := rfl
          rw [hs, ih, (alt_get r _).1]
          rw [show k = 2 * Nat.div k 2 + 1 by show k = 2 * (k / 2) + 1; omega, List.getElem?_cons_succ]
          congr 2
          show (2 * (k / 2) + 1) / 2 = k / 2
          omega
        · simp only [h1, decide_false, cond_false]
          have h1' : k % 2 = 0 := by have : ¬ k % 2 = 1 := h1; omega
          have ih := ofList_getP f (alt r).2 g (Nat.div (Nat.sub k 1) 2) hl2 (by show (k - 1) / 2 ≤ g; omega)
          have hs : (T.node (ofList f (alt r).1) (some x) (ofList f (alt r).2)).getP (false :: pathF g (Nat.div (Nat.sub k 1) 2)) = (ofList f (alt r).2).getP (pathF g (Nat.div (Nat.sub k 1) 2)) := rfl
          rw [hs, ih, (alt_get r _).2]
          obtain ⟨j, rfl⟩ : ∃ j, k = 2 * j + 2 := ⟨(k - 2) / 2, by omega⟩
          rw [show 2 * j + 2 = (2 * j + 1) + 1 by omega, List.getElem?_cons_succ]
          congr 1
          show 2 * ((2 * j + 2 - 1) / 2) + 1 = 2 * j + 1
          omega
theorem ofList_get {α : Type} {f : Nat} {l : List α} (h : l.length < 2 ^ f) (k : Nat) : (ofList f l).get k = l[k]? := ofList_getP f l k k h (Nat.le_refl _)
def namedAll (P : Program) : Bool := P.types.toList.all fun i => match i.desc with | .named _ u => decide (u < P.types.size) | _ => true
theorem envF_ok {P : Program} (hnt : P.types.size < 2 ^ 12) (hnf : P.funcs.size < 2 ^ 12) (hnd : namedAll P = true) (hfit : fitAll P = true) (hname : nameAll P = true) (hm : P.follows .mixedOrders = true) : EnvOk (envF P) where
  ty := fun t i h => by
    have hlt : P.types.toList.length < 2 ^ 12 := by simpa using hnt
    simp only [envF] at h
    rw [ofList_get (by simpa using hnt), List.getElem?_map] at h
    cases hi : P.types.toList[t]? with
    | none => rw [hi] at h; cases h
    | some ti =>
      rw [hi] at h
      injection h with h; subst h
      have hts : t < P.types.size := by
        have := (List.getElem?_eq_some_iff.1 hi).1
        simpa using this
      have hinfo : ∀ q, (h : q < P.types.size) → P.info? q = P.types.toList[q]? := fun q h => by
        show Tables.info? P.toTables q = _
        unfold Tables.info?
        rw [if_pos h]; simp
      have h0 := (hinfo t hts).trans hi
      have hu : uOf (ofList 12 P.types.toList) ti.desc = P.underlying t := by
        have hn := List.all_eq_true.1 hnd ti (List.mem_of_getElem? hi)
        unfold Program.underlying
        rw [h0]
        obtain ⟨d, s1, s2, s3, s4, s5, s6, s7, s8, s9⟩ := ti
        cases d with
        | named nm u =>
          simp only [decide_eq_true_eq] at hn
          simp only [uOf]
          rw [ofList_get hlt, ← hinfo u hn]
          cases P.info? u <;> rfl
        | _ => rfl
      have h0' : (envF P).P.info? t = some ti := h0
      unfold tyOf tyI
      rw [hu]
      simp only [h0']
      rfl
  fn := fun f fn h => by
    simp only [envF] at h
    rw [ofList_get (by simpa using hnf), List.getElem?_map] at h
    cases hi : P.funcs.toList[f]? with
    | none => rw [hi] at h; cases h
    | some ti =>
      rw [hi] at h
      injection h with h
      injection h with h; subst h
      show P.funcs[f]? = _
      simpa using hi
  fit := fun f fn c h hb => by
    simp only [envF] at h
    rw [ofList_get (by simpa using hnf), List.getElem?_map] at h
    cases hi : P.funcs.toList[f]? with
    | none => rw [hi] at h; cases h
    | some ti =>
      rw [hi] at h
      injection h with h
      injection h with h; subst h
      have := List.all_eq_true.1 hfit ti (List.mem_of_getElem? hi)
      rw [hb] at this; exact this
  named := fun f fn h => by
    simp only [envF] at h
    rw [ofList_get (by simpa using hnf), List.getElem?_map] at h
    cases hi : P.funcs.toList[f]? with
    | none => rw [hi] at h; cases h
    | some ti =>
      rw [hi] at h
      injection h with h
      injection h with h; subst h
      have := List.all_eq_true.1 hname ti (List.mem_of_getElem? hi)
      simpa using this
  mixed := hm
end Go.Ev
namespace Go.Ev
open Go.RowKit (Below)
/-! contracts that lie outside the evaluator: bridges from what is proved of the machine -/
def Enters (P : Program) (f : FuncId) : Prop := ∀ (args : Array Value) (w : World), (callFunc f args).run P w = .ok (.enter f args) w
theorem Stp.below {ι : Io} {s : St} {w w' : World} (H : HRel ι s w) (h : Below w.heap.size w w') : Stp ι s w ι s w' :=
 ⟨Sub.refl ι, ⟨fun k b hk => by
   obtain ⟨l, o, h1, h2, h3⟩ := H.blk k b hk
   exact ⟨l, o, h1, by rw [h.block l.b (H.lt hk h1)]; exact h2, h3⟩, H.inj, H.fresh⟩, h.size, fun b hb _ => h.block b hb, fun k l bb hk hl => .inr ⟨k, l, bb, hk, hl, rfl⟩, h.os, h.tape, h.output, Nat.le_refl _, fun _ _ => rfl⟩
/-- it hands back what holds no memory -/
theorem cons_val {E : Env} {f : FuncId} {vs : List Value} {ι : Io} {s : St} {w : World} {a : AV} {v : Value} (HR : HRel ι s w) (hen : Enters E.P f) (ha : rel ι a v)
  (h : Calls E.P f (List.toArray vs) w fun e w' => e = .returned v ∧ Below w.heap.size w w') : CallOk E f vs ι s w [(a, s)] :=
 .inr ⟨hen _ w, h.mono fun _ w' ⟨he, hb⟩ => ⟨v, he, _, List.mem_singleton.2 rfl, ι, Stp.below HR hb, ha⟩⟩
noncomputable def newRow (s : St) (cs : List AV) (n esz : Nat) : List (AV × St) := match n with
 | 0 => [(.g (.slice none 0 0), s)]
 | n + 1 => [(.slice s.nx 0 (n + 1) false (n + 1) esz, s.new (.cells cs))]
/-- it hands back a new row -/
theorem cons_row {E : Env} {f : FuncId} {vs : List Value} {ι : Io} {s : St} {w : World} {cs : List AV} {xs : List Value} {n esz : Nat} {T : TypeId} (HR : HRel ι s w) (hen : Enters E.P f) (hx : relL ι cs xs)
  (h : Calls E.P f (List.toArray vs) w fun e w' => ∃ v, e = .returned v ∧ w'.ownsRow w.heap.size T esz v n xs ∧ (v = .slice none 0 0 ↔ n = 0) ∧ Below w.heap.size w w') : CallOk E f vs ι s w (newRow s cs n esz) := by
 refine .inr ⟨hen _ w, h.mono ?_⟩
 rintro _ w' ⟨v, rfl, ⟨hlen, hv⟩, hn, hb⟩
 refine ⟨v, rfl, ?_⟩
 cases n with
 | zero =>
  obtain rfl := hn.2 rfl
  exact ⟨_, List.mem_singleton.2 rfl, ι, Stp.below HR hb, rfl, rfl⟩
 | succ n =>
  rcases hv with ⟨rfl, h0⟩ | ⟨g, cap, cur, rfl, hg, hgb, h1, h2, h3, h4⟩
  ·cases h0
  ·have hsub := Io.up_sub (l := (⟨g, 0, cur.size⟩ : Loc)) (HR.fresh _ (Nat.le_refl _))
   refine ⟨_, List.mem_singleton.2 rfl, ι.up s.nx ⟨g, 0, cur.size⟩, Stp.name (s0 := s) HR (fun _ _ h => h) rfl ⟨cur, T, rfl, rfl, fun i a hi => ?_, fun _ => rfl⟩ hgb hb.size (fun q hq _ => hb.block q hq) (.inl hg) hb.os hb.tape hb.output, ?_⟩
   ·obtain ⟨y, y1, y2⟩ := (hx.sub hsub).get i a hi
    refine ⟨y, ?_, y2⟩
    rw [← h4, List.getElem?_take] at y1
    split at y1
    ·show cur[0 + i]? = some y
     rw [Nat.zero_add]
     simpa using y1
    ·cases y1
   ·refine ⟨⟨g, 0, cur.size⟩, 0, cap, Io.up_self, rfl, fun _ => rfl, (fun e => by cases e), h1, Nat.le_refl _, ?_, h2⟩
    show 0 + cap * esz ≤ cur.size
    rw [Nat.zero_add, h3]; exact Nat.le_refl _
/-! keys of a map, in their row -/
def ints : List Int → List AV := List.map fun x => .g (.int .i64 x)
def keyI : AV → Option Int
 | .g (.int .i64 n) => cond (decide (-9223372036854775808 ≤ n) && decide (n ≤ 9223372036854775807)) (some n) none
 | _ => none
def keysI : List AEnt → Option (List Int)
 | [] => some []
 | e :: r => match keyI e.key with
  | some x => match keysI r with | some l => some (x :: l) | none => none
  | none => none
def insI (a : Int) : List Int → List Int
 | [] => [a]
 | b :: r => cond (decide (a ≤ b)) (a :: b :: r) (b :: insI a r)
def sortI : List Int → List Int
 | [] => []
 | a :: r => insI a (sortI r)
/-- each but once -/
def onceI : List Int → Bool
 | [] => true
 | a :: r => r.all (fun b => !decide (a = b)) && onceI r
def onceN : List Nat → Bool
 | [] => true
 | a :: r => r.all (fun b => !Nat.beq a b) && onceN r
def stampB (es : List AEnt) (clock : Nat) : Bool := es.all (fun e => Nat.blt e.born clock) && onceN (es.map (·.born)) && Nat.ble es.length 1000000
noncomputable def cSortI (gs : List Nat) (args : List AV) (s : St) : R (List (AV × St)) := match args with
 | [.func (.func g) [] [.ptr k 0]] => cond (gs.elem g) (match s.h.get k with
   | some (.cells [.g (.map none)]) => .ok [(.g (.slice none 0 0), s)]
   | some (.cells [.map km]) => match s.h.get km with
    | some (.map es clock) => match keysI es with
     | some l => cond (stampB es clock && onceI l) (.ok (newRow s (ints (sortI l)) l.length 1)) (.err 804)
     | none => .err 803
    | _ => .err 805
   | _ => .err 800) (.err 801)
 | _ => .err 802
theorem insI_perm (a : Int) : ∀ l, (insI a l).Perm (a :: l)
 | [] => .refl _
 | b :: r => by
  unfold insI
  cases decide (a ≤ b) with
  | true => exact .refl _
  | false => exact ((insI_perm a r).cons b).trans (.swap a b r)
theorem sortI_perm : ∀ l, (sortI l).Perm l
 | [] => .refl _
 | a :: r => (insI_perm a _).trans ((sortI_perm r).cons a)
theorem insI_sorted (a : Int) : ∀ l, l.Pairwise (· ≤ ·) → (insI a l).Pairwise (· ≤ ·)
 | [], _ => by simp [insI]
 | b :: r, h => by
  unfold insI
  rw [List.pairwise_cons] at h
  by_cases hab : a ≤ b
  ·simp only [hab, decide_true, cond_true, List.pairwise_cons]
   refine ⟨fun c hc => ?_, h⟩
   rcases List.mem_cons.1 hc with rfl | hc
   ·exact hab
   ·have := h.1 c hc; omega
  ·simp only [hab, decide_false, cond_false, List.pairwise_cons]
   refine ⟨fun c hc => ?_, insI_sorted a r h.2⟩
   rcases List.mem_cons.1 ((insI_perm a r).mem_iff.1 hc) with rfl | hc
   ·omega
   ·exact h.1 c hc
theorem sortI_sorted : ∀ l, (sortI l).Pairwise (· ≤ ·)
 | [] => List.Pairwise.nil
 | a :: r => insI_sorted a _ (sortI_sorted r)
theorem sortI_eq {l m : List Int} (h : m.Perm l) : m.mergeSort (fun x y => decide (x ≤ y)) = sortI l := by
 refine List.Perm.eq_of_pairwise (le := fun x y => x ≤ y) (fun a b _ _ h1 h2 => by omega) ?_ (sortI_sorted l) (((List.mergeSort_perm m _).trans h).trans (sortI_perm l).symm)
 have := List.pairwise_mergeSort (le := fun x y : Int => decide (x ≤ y)) (fun a b c h1 h2 => by simp only [decide_eq_true_eq] at *; omega) (fun a b => by simp only [Bool.or_eq_true, decide_eq_true_eq]; omega) m
 exact this.imp (fun h => by simpa using h)
end Go.Ev
namespace Go.Ev
open Go.RowKit (Below)
open Go.MapKept (Stamped)
/-- slices.Sorted at the keys that maps.Keys hands out -/
structure SortsI (P : Program) (f g : Nat) (T : TypeId) : Prop where
 nil : ∀ (w : World) (B : Nat), B < w.heap.size → w.cell? ⟨B, 0, none⟩ = some (.map none) →
  Calls P f #[.func (.func g) #[] #[.pointer (some ⟨B, 0, none⟩)]] w fun e w' => e = .returned (.slice none 0 0) ∧ Below w.heap.size w w'
 row : ∀ (w : World) (B b : Nat) (ms : List MapEntry) (clock : Nat) (l : List Int), B < w.heap.size → w.cell? ⟨B, 0, none⟩ = some (.map (some b)) → w.heap[b]? = some (.map (List.toArray ms) clock) → Stamped (List.toArray ms) clock →
  ms.map (·.key) = l.map (Value.int .i64) → (∀ x ∈ l, -9223372036854775808 ≤ x ∧ x ≤ 9223372036854775807) → l.length ≤ 1000000 →
  Calls P f #[.func (.func g) #[] #[.pointer (some ⟨B, 0, none⟩)]] w fun e w' => ∃ v, e = .returned v ∧ w'.ownsRow w.heap.size T 1 v l.length ((sortI l).map (Value.int .i64)) ∧ (v = .slice none 0 0 ↔ l.length = 0) ∧ Below w.heap.size w w'
theorem keyI_spec {a : AV} {n : Int} (h : keyI a = some n) : a = .g (.int .i64 n) ∧ -9223372036854775808 ≤ n ∧ n ≤ 9223372036854775807 := by
 unfold keyI at h
 split at h
 ·rename_i m
  cases hc : (decide (-9223372036854775808 ≤ m) && decide (m ≤ 9223372036854775807)) with
  | false => rw [hc] at h; cases h
  | true =>
   rw [hc] at h
   injection h with h; subst h
   rw [Bool.and_eq_true, decide_eq_true_eq, decide_eq_true_eq] at hc
   exact ⟨rfl, hc⟩
 ·cases h
theorem keysI_spec {ι : Io} : ∀ {es : List AEnt} {l : List Int} {ms : List MapEntry}, keysI es = some l → relE ι es ms → ms.map (·.key) = l.map (Value.int .i64) ∧ (∀ x ∈ l, -9223372036854775808 ≤ x ∧ x ≤ 9223372036854775807) ∧ es.length = l.length
 | [], l, ms, h, hr => by
  injection h with h; subst h
  rw [show ms = [] from hr]
  simp
 | e :: r, l, ms, h, hr => by
  unfold keysI at h
  split at h
  ·rename_i x hx
   split at h
   ·rename_i l' hl'
    injection h with h; subst h
    obtain ⟨m, ms', rfl, h1, h2, h3, h4⟩ := hr
    obtain ⟨g1, g2, g3⟩ := keysI_spec hl' h4
    obtain ⟨k1, k2⟩ := keyI_spec hx
    rw [k1] at h1
    refine ⟨by simp [g1, h1.1], fun y hy => ?_, by simp [g3]⟩
    rcases List.mem_cons.1 hy with rfl | hy
    ·exact k2
    ·exact g2 y hy
   ·cases h
  ·cases h
theorem onceI_nodup : ∀ l, onceI l = true → l.Nodup
 | [], _ => List.nodup_nil
 | a :: r, h => by
  simp only [onceI, Bool.and_eq_true, List.all_eq_true] at h
  rw [List.nodup_cons]
  refine ⟨fun hm => ?_, onceI_nodup r h.2⟩
  have := h.1 a hm
  simp at this
theorem onceN_nodup : ∀ l, onceN l = true → l.Nodup
 | [], _ => List.nodup_nil
 | a :: r, h => by
  simp only [onceN, Bool.and_eq_true, List.all_eq_true] at h
  rw [List.nodup_cons]
  refine ⟨fun hm => ?_, onceN_nodup r h.2⟩
  have := h.1 a hm
  simp [beq_eq] at this
theorem relE_born {ι : Io} : ∀ {es : List AEnt} {ms : List MapEntry}, relE ι es ms → ms.map (·.born) = es.map (·.born)
 | [], ms, hr => by rw [show ms = [] from hr]; rfl
 | e :: r, ms, hr => by
  obtain ⟨m, ms', rfl, h1, h2, h3, h4⟩ := hr
  simp [h3, relE_born h4]
theorem stamp_of {ι : Io} {es : List AEnt} {ms : List MapEntry} {clock : Nat} (hr : relE ι es ms) (h : stampB es clock = true) (hk : (ms.map (·.key)).Nodup) : Stamped (List.toArray ms) clock ∧ es.length ≤ 1000000 := by
 unfold stampB at h
 simp only [Bool.and_eq_true, ble_eq] at h
 obtain ⟨⟨h1, h2⟩, h3⟩ := h
 have hb := relE_born hr
 refine ⟨⟨fun x hx => ?_, ?_, ?_⟩, of_decide_eq_true h3⟩
 ·have : x.born ∈ es.map (·.born) := by rw [← hb]; exact List.mem_map_of_mem hx
  obtain ⟨e, he, hxe⟩ := List.mem_map.1 this
  have := List.all_eq_true.1 h1 e he
  rw [blt_eq] at this
  rw [← hxe]; exact of_decide_eq_true this
 ·show (ms.map (·.born)).Nodup
  rw [hb]; exact onceN_nodup _ h2
 ·exact hk
theorem ints_rel (ι : Io) : ∀ l : List Int, relL ι (ints l) (l.map (Value.int .i64))
 | [] => rfl
 | a :: r => ⟨_, _, rfl, ⟨rfl, rfl⟩, ints_rel ι r⟩
theorem sortI_cons {E : Env} {f : FuncId} {T : TypeId} {gs : List Nat} (hen : Enters E.P f) (hg : ∀ g, gs.elem g = true → SortsI E.P f g T) : ∀ args s l, cSortI gs args s = .ok l → ∀ ι w vs, HRel ι s w → relL ι args vs → CallOk E f vs ι s w l := by
 intro args s l h ι w vs HR hrel
 unfold cSortI at h
 split at h
 ·rename_i g k
  cases hge : gs.elem g with
  | false => rw [hge] at h; cases h
  | true =>
   rw [hge] at h
   have hS := hg g hge
   obtain ⟨v, vs', rfl, ⟨a', b', rfl, ha, hb⟩, hvs⟩ := hrel
   obtain rfl : a' = [] := ha
   obtain rfl : vs' = [] := hvs
   obtain ⟨pv, b2, rfl, ⟨lk, hlk, rfl⟩, hb2⟩ := hb
   obtain rfl : b2 = [] := hb2
   simp only [cond_true] at h
   split at h
   ·rename_i hk
    injection h with h; subst h
    obtain ⟨l', o, q1, q2, c, t, q3, q4, q5, q6⟩ := HR.blk k _ hk
    rw [hlk] at q1; injection q1 with q1; subst q1
    have hz := q6 rfl
    obtain ⟨v0, c1, c2⟩ := q5 0 _ rfl
    subst q3
    refine cons_val HR hen ⟨rfl, rfl⟩ ?_
    rw [hz]
    refine hS.nil w lk.b (Array.getElem?_eq_some_iff.1 q2).1 ?_
    rw [cell_of q2 0]
    rw [hz, Nat.zero_add] at c1
    rw [c1, c2.1]
   ·rename_i km hk
    split at h
    ·rename_i es clock hkm
     split at h
     ·rename_i ks hks
      cases hc : stampB es clock && onceI ks with
      | false => rw [hc] at h; cases h
      | true =>
       rw [hc] at h
       injection h with h; subst h
       rw [Bool.and_eq_true] at hc
       obtain ⟨l', o, q1, q2, c, t, q3, q4, q5, q6⟩ := HR.blk k _ hk
       rw [hlk] at q1; injection q1 with q1; subst q1
       have hz := q6 rfl
       obtain ⟨v0, c1, lm, hlm, c2⟩ := q5 0 _ rfl
       subst q3 c2
       obtain ⟨l2, o2, p1, p2, ms, p3, p4⟩ := HR.blk km _ hkm
       rw [hlm] at p1; injection p1 with p1; subst p1
       subst p3
       obtain ⟨g1, g2, g3⟩ := keysI_spec hks p4
       have hnd : (ms.map (·.key)).Nodup := by
        rw [g1]
        exact List.Pairwise.map _ (fun a b hab e => hab (by injection e)) (onceI_nodup ks hc.2)
       obtain ⟨st, hl⟩ := stamp_of p4 hc.1 hnd
       refine cons_row (T := T) HR hen (ints_rel ι (sortI ks)) ?_
       rw [hz]
       refine hS.row w lk.b lm.b ms clock ks (Array.getElem?_eq_some_iff.1 q2).1 ?_ p2 st g1 g2 (by omega)
       rw [cell_of q2 0]
       rw [hz, Nat.zero_add] at c1
       rw [c1]
     ·cases h
    ·cases h
   ·cases h
 ·cases h
end Go.Ev
namespace Go.Ev
open Go.RowKit (Below)
theorem acellsR_spec {ι : Io} {s : St} {w : World} (HR : HRel ι s w) {k : Nat} {cs : List AV} (h : acellsR s k = .ok cs) {l : Loc} (hl : ι k = some l) :
  ∃ c t f, w.heap[l.b]? = some (.cells c t f) ∧ c.size = l.n ∧ relC ι l.s cs c := by
 unfold acellsR at h
 split at h
 ·rename_i cs' hk
  injection h with h; subst h
  obtain ⟨l', o, q1, q2, c, t, q3, q4, q5, _⟩ := HR.blk k _ hk
  rw [hl] at q1; injection q1 with q1; subst q1
  subst q3
  exact ⟨c, t, _, q2, q4, q5⟩
 ·rename_i cs' hk
  injection h with h; subst h
  obtain ⟨l', o, q1, q2, c, t, f, q3, q4, q5⟩ := HR.blk k _ hk
  rw [hl] at q1; injection q1 with q1; subst q1
  subst q3
  exact ⟨c, t, _, q2, q4, q5⟩
 ·cases h
 ·cases h
/-- a slice's row, as it lies in the world -/
def RowAt (w : World) (v : Value) (n : Nat) (r : List Value) : Prop :=
 ∃ b o cap, v = .slice (some ⟨b, o, none⟩) n cap ∧ n ≤ cap ∧ cap ≤ 9223372036854775807 ∧ b < w.heap.size ∧ ∀ (i : Nat) (y : Value), r[i]? = some y → w.cell? ⟨b, o + i, none⟩ = some y
theorem slice_row {ι : Io} {s : St} {w : World} (HR : HRel ι s w) {k off n c esz : Nat} {ex : Bool} {cs r : List AV} {v : Value} (hv : rel ι (.slice k off n ex c esz) v) (hc : acellsR s k = .ok cs) (hr : subAt cs off (n * esz) = .ok r) (hn : 0 < n) :
  ∃ ys, relL ι r ys ∧ RowAt w v n ys := by
 obtain ⟨l, o, cap, hl, rfl, h1, _, h3, h4, h5, h6⟩ := hv
 obtain ⟨cc, t, f, g1, g2, g3⟩ := acellsR_spec HR hc hl
 have ho := h1 (by omega)
 subst ho
 obtain ⟨k1, k2⟩ := subAt_get _ _ _ _ hr
 have hall : ∀ i a, r[i]? = some a → ∃ y, cc[l.s + off + i]? = some y ∧ rel ι a y := by
  intro i a hi
  have hin : i < n * esz := by
   have := (List.getElem?_eq_some_iff.1 hi).1; omega
  rw [k2 i hin] at hi
  obtain ⟨y, y1, y2⟩ := g3 (off + i) a hi
  exact ⟨y, by rw [Nat.add_assoc]; exact y1, y2⟩
 have key : ∀ (q : List AV) (j : Nat), (∀ i a, q[i]? = some a → ∃ y, cc[l.s + off + (j + i)]? = some y ∧ rel ι a y) → ∃ ys : List Value, relL ι q ys ∧ ∀ i y, ys[i]? = some y → cc[l.s + off + (j + i)]? = some y := by
  intro q
  induction q with
  | nil => intro j _; exact ⟨[], rfl, fun i y h => by simp at h⟩
  | cons a q ih =>
   intro j h
   obtain ⟨y, y1, y2⟩ := h 0 a rfl
   obtain ⟨ys, z1, z2⟩ := ih (j + 1) (fun i a' hi => by
    have := h (i + 1) a' (by simpa using hi)
    rwa [show j + (i + 1) = j + 1 + i by omega] at this)
   refine ⟨y :: ys, ⟨_, _, rfl, y2, z1⟩, fun i y' hi => ?_⟩
   cases i with
   | zero => simp at hi; subst hi; exact y1
   | succ i =>
    rw [show j + (i + 1) = j + 1 + i by omega]
    exact z2 i y' (by simpa using hi)
 obtain ⟨ys, z1, z2⟩ := key r 0 (fun i a hi => by rw [Nat.zero_add]; exact hall i a hi)
 refine ⟨ys, z1, l.b, l.s + off, cap, rfl, by omega, h6, (Array.getElem?_eq_some_iff.1 g1).1, fun i y hi => ?_⟩
 rw [cell_of g1]
 have := z2 i y hi
 rwa [Nat.zero_add] at this
/-- a slice that is not empty -/
noncomputable def rowOf (s : St) : AV → R (Nat × List AV)
 | .slice k off n _ _ esz => cond (Nat.beq n 0) (.err 820) (match acellsR s k with
  | .ok cs => match subAt cs off (n * esz) with | .ok r => .ok (n, r) | .err c => .err c
  | .err c => .err c)
 | _ => .err 821
theorem rowOf_ok {ι : Io} {s : St} {w : World} (HR : HRel ι s w) {a : AV} {n : Nat} {r : List AV} {v : Value} (h : rowOf s a = .ok (n, r)) (hv : rel ι a v) : ∃ ys, relL ι r ys ∧ RowAt w v n ys := by
 unfold rowOf at h
 split at h
 ·rename_i k off n' ex c esz
  cases hb : Nat.beq n' 0 with
  | true => rw [hb] at h; cases h
  | false =>
   rw [hb] at h
   simp only [cond_false] at h
   split at h
   ·rename_i cs hcs
    split at h
    ·rename_i r' hr
     injection h with h; injection h with h1 h2; subst h1 h2
     refine slice_row HR hv hcs hr ?_
     rw [beq_eq] at hb
     have := of_decide_eq_false hb
     omega
    ·cases h
   ·cases h
 ·cases h
/-! strings.Join -/
def strsA : List AV → Option (List ByteArray)
 | [] => some []
 | .g (.string b) :: r => match strsA r with | some l => some (b :: l) | none => none
 | _ => none
def joinS (l : List ByteArray) (sep : ByteArray) : List UInt8 := Go.Lib.join (l.map (·.data.toList)) sep.data.toList
noncomputable def cJoinS (args : List AV) (s : St) : R (List (AV × St)) := match args with
 | [v, .g (.string sep)] => match rowOf s v with
  | .ok p => match strsA p.2 with
   | some l => cond (Nat.beq p.1 l.length && Nat.ble l.length 1000 && Nat.ble (joinS l sep).length 1000000) (.ok [(.g (.string ⟨(joinS l sep).toArray⟩), s)]) (.err 822)
   | none => .err 823
  | .err c => .err c
 | _ => .err 824
def JoinAt (P : Program) (f : FuncId) : Prop := ∀ (bk o c : Nat) (xs : List ByteArray) (sep : ByteArray) (w : World), (∀ (j : Nat) x, xs[j]? = some x → w.cell? ⟨bk, o + j, none⟩ = some (.string x)) → bk < w.heap.size → xs.length ≤ 140737488355328 → xs.length ≤ c →
 (joinS xs sep).length ≤ 140737488355328 → Calls P f #[.slice (some ⟨bk, o, none⟩) xs.length c, .string sep] w fun e w' => e = .returned (.string ⟨(joinS xs sep).toArray⟩) ∧ Below w.heap.size w w'
theorem strsA_spec {ι : Io} : ∀ {r : List AV} {l : List ByteArray} {ys : List Value}, strsA r = some l → relL ι r ys → ys = l.map Value.string
 | [], l, ys, h, hr => by
  injection h with h; subst h
  rw [show ys = [] from hr]; rfl
 | .g (.string b) :: r, l, ys, h, hr => by
  simp only [strsA] at h
  split at h
  ·rename_i l' hl
   injection h with h; subst h
   obtain ⟨v, vs, rfl, h1, h2⟩ := hr
   rw [strsA_spec hl h2, h1.1]; rfl
  ·cases h
 | .g (.bool _) :: _, _, _, h, _ => by cases h
 | .g (.int _ _) :: _, _, _, h, _ => by cases h
 | .g (.float _ _) :: _, _, _, h, _ => by cases h
 | .g (.complex _ _ _) :: _, _, _, h, _ => by cases h
 | .g (.pointer _) :: _, _, _, h, _ => by cases h
 | .g (.slice _ _ _) :: _, _, _, h, _ => by cases h
 | .g (.map _) :: _, _, _, h, _ => by cases h
 | .g (.chan _) :: _, _, _, h, _ => by cases h
 | .g (.func _ _ _) :: _, _, _, h, _ => by cases h
 | .g .nilFunc :: _, _, _, h, _ => by cases h
 | .g (.iface _ _) :: _, _, _, h, _ => by cases h
 | .g .nilIface :: _, _, _, h, _ => by cases h
 | .g (.agg _) :: _, _, _, h, _ => by cases h
 | .g (.tuple _) :: _, _, _, h, _ => by cases h
 | .ptr .. :: _, _, _, h, _ => by cases h
 | .slice .. :: _, _, _, h, _ => by cases h
 | .map _ :: _, _, _, h, _ => by cases h
 | .func .. :: _, _, _, h, _ => by cases h
 | .iface .. :: _, _, _, h, _ => by cases h
 | .agg _ :: _, _, _, h, _ => by cases h
 | .tuple _ :: _, _, _, h, _ => by cases h
theorem joinS_cons {E : Env} {f : FuncId} (hen : Enters E.P f) (hJ : JoinAt E.P f) : ∀ args s l, cJoinS args s = .ok l → ∀ ι w vs, HRel ι s w → relL ι args vs → CallOk E f vs ι s w l := by
 intro args s l h ι w vs HR hrel
 unfold cJoinS at h
 split at h
 ·rename_i v sep
  obtain ⟨x, vs', rfl, hx, y, vs2, rfl, hy, hnil⟩ := hrel
  obtain rfl : vs2 = [] := hnil
  obtain ⟨rfl, _⟩ := hy
  split at h
  ·rename_i p hp
   obtain ⟨n, r⟩ := p
   split at h
   ·rename_i xs hxs
    cases hc : Nat.beq n xs.length && Nat.ble xs.length 1000 && Nat.ble (joinS xs sep).length 1000000 with
    | false => rw [hc] at h; cases h
    | true =>
     rw [hc] at h
     injection h with h; subst h
     simp only [Bool.and_eq_true, beq_eq, ble_eq] at hc
     obtain ⟨⟨h1, h2⟩, h3⟩ := hc
     have h1 := of_decide_eq_true h1
     have h2 := of_decide_eq_true h2
     have h3 := of_decide_eq_true h3
     obtain ⟨ys, y1, b, o, cap, rfl, y3, y4, y5, y6⟩ := rowOf_ok HR hp hx
     have hys := strsA_spec hxs y1
     subst h1
     refine cons_val HR hen ⟨rfl, rfl⟩ ?_
     exact hJ b o cap xs sep w (fun j x hj => y6 j _ (by rw [hys]; simp [hj])) y5 (by omega) y3 (by omega)
   ·cases h
  ·cases h
 ·cases h
end Go.Ev
namespace Go.Ev
open Go.RowKit (Below)
/-! split.Sum, split.Pick -/
def intV : AV → Option Int
 | .g (.int .i64 n) => some n
 | _ => none
def pairsA : List AV → Option (List (Int × Int))
 | [] => some []
 | [_] => none
 | a :: b :: r => match intV a, intV b with
  | some x, some y => (match pairsA r with | some l => some ((x, y) :: l) | none => none)
  | _, _ => none
def sumI : List (Int × Int) → Int
 | [] => 0
 | p :: r => p.2 + sumI r
def pickI : List (Int × Int) → Int → Int
 | [], _ => 0
 | p :: r, x => cond (decide (x < p.2)) p.1 (pickI r (x - p.2))
def smallI (l : List (Int × Int)) : Bool := l.all fun p => decide (0 ≤ p.2) && decide (p.2 ≤ 1000000) && decide (-9223372036854775808 ≤ p.1) && decide (p.1 ≤ 9223372036854775807)
def Pairs (w : World) (b o : Nat) (ps : List (Int × Int)) : Prop := ∀ (j : Nat) x, ps[j]? = some x → w.cell? ⟨b, o + j * 2, none⟩ = some (.int .i64 x.1) ∧ w.cell? ⟨b, o + j * 2 + 1, none⟩ = some (.int .i64 x.2)
noncomputable def pairsOf (s : St) (v : AV) : R (List (Int × Int)) := match rowOf s v with
 | .ok p => match pairsA p.2 with
  | some l => cond (Nat.beq p.1 l.length && Nat.ble l.length 1000 && smallI l) (.ok l) (.err 830)
  | none => .err 831
 | .err c => .err c
noncomputable def cSumI (args : List AV) (s : St) : R (List (AV × St)) := match args with
 | [v] => match pairsOf s v with | .ok l => .ok [(.g (.int .i64 (sumI l)), s)] | .err c => .err c
 | _ => .err 832
noncomputable def cPickI (args : List AV) (s : St) : R (List (AV × St)) := match args with
 | [v, .g (.int .u64 d)] => match pairsOf s v with
  | .ok l => cond (decide (0 ≤ d) && decide (d < 18446744073709551616) && decide (1 ≤ sumI l)) (.ok [(.g (.int .i64 (pickI l (d % sumI l))), s)]) (.err 833)
  | .err c => .err c
 | _ => .err 834
def SmallI (ps : List (Int × Int)) : Prop := ∀ p ∈ ps, (0 ≤ p.2 ∧ p.2 ≤ 1000000) ∧ -9223372036854775808 ≤ p.1 ∧ p.1 ≤ 9223372036854775807
def SumAt (P : Program) (f : FuncId) : Prop := ∀ (b o c : Nat) (ps : List (Int × Int)) (w : World), Pairs w b o ps → b < w.heap.size → ps.length ≤ c → c ≤ 9223372036854775807 → ps.length ≤ 1000 → SmallI ps →
 Calls P f #[.slice (some ⟨b, o, none⟩) ps.length c] w fun e w' => e = .returned (.int .i64 (sumI ps)) ∧ Below w.heap.size w w'
def PickAt (P : Program) (f : FuncId) : Prop := ∀ (b o c : Nat) (ps : List (Int × Int)) (d : Int) (w : World), Pairs w b o ps → b < w.heap.size → ps.length ≤ c → c ≤ 9223372036854775807 → ps.length ≤ 1000 → SmallI ps → 0 ≤ d → d < 18446744073709551616 → 1 ≤ sumI ps →
 Calls P f #[.slice (some ⟨b, o, none⟩) ps.length c, .int .u64 d] w fun e w' => e = .returned (.int .i64 (pickI ps (d % sumI ps))) ∧ Below w.heap.size w w'
theorem intV_spec {a : AV} {n : Int} (h : intV a = some n) : a = .g (.int .i64 n) := by
 unfold intV at h
 split at h
 ·injection h with h; subst h; rfl
 ·cases h
theorem pairsA_spec {ι : Io} : ∀ {r : List AV} {l : List (Int × Int)} {ys : List Value}, pairsA r = some l → relL ι r ys → ∀ (j : Nat) x, l[j]? = some x → ys[j * 2]? = some (.int .i64 x.1) ∧ ys[j * 2 + 1]? = some (.int .i64 x.2)
 | [], l, ys, h, hr, j, x, hj => by
  injection h with h; subst h
  simp at hj
 | [_], l, ys, h, hr, j, x, hj => by cases h
 | a :: b :: r, l, ys, h, hr, j, x, hj => by
  unfold pairsA at h
  split at h
  ·rename_i u v hu hv
   split at h
   ·rename_i l' hl
    injection h with h; subst h
    obtain ⟨y, ys1, rfl, hy, z, ys2, rfl, hz, hr2⟩ := hr
    rw [intV_spec hu] at hy
    rw [intV_spec hv] at hz
    cases j with
    | zero =>
     simp at hj
     subst hj
     simp [hy.1, hz.1]
    | succ j =>
     have := pairsA_spec hl hr2 j x (by simpa using hj)
     rw [show (j + 1) * 2 = j * 2 + 1 + 1 by omega, List.getElem?_cons_succ, List.getElem?_cons_succ, List.getElem?_cons_succ, List.getElem?_cons_succ]
     exact this
   ·cases h
  ·cases h
theorem pairsOf_ok {ι : Io} {s : St} {w : World} (HR : HRel ι s w) {v : AV} {l : List (Int × Int)} {x : Value} (h : pairsOf s v = .ok l) (hv : rel ι v x) :
  ∃ b o c, x = .slice (some ⟨b, o, none⟩) l.length c ∧ Pairs w b o l ∧ b < w.heap.size ∧ l.length ≤ c ∧ c ≤ 9223372036854775807 ∧ l.length ≤ 1000 ∧ SmallI l := by
 unfold pairsOf at h
 split at h
 ·rename_i p hp
  obtain ⟨n, r⟩ := p
  split at h
  ·rename_i l' hl
   cases hc : Nat.beq n l'.length && Nat.ble l'.length 1000 && smallI l' with
   | false => rw [hc] at h; cases h
   | true =>
    rw [hc] at h
    injection h with h; subst h
    simp only [Bool.and_eq_true, beq_eq, ble_eq] at hc
    obtain ⟨⟨h1, h2⟩, h3⟩ := hc
    have h1 := of_decide_eq_true h1
    have h2 := of_decide_eq_true h2
    subst h1
    obtain ⟨ys, y1, b, o, cap, rfl, y3, y4, y5, y6⟩ := rowOf_ok HR hp hv
    refine ⟨b, o, cap, rfl, fun j x hj => ?_, y5, y3, y4, h2, fun p hp => ?_⟩
    ·obtain ⟨g1, g2⟩ := pairsA_spec hl y1 j x hj
     exact ⟨y6 _ _ g1, by rw [Nat.add_assoc]; exact y6 _ _ g2⟩
    ·have := List.all_eq_true.1 h3 p hp
     simp only [Bool.and_eq_true, decide_eq_true_eq] at this
     exact ⟨⟨this.1.1.1, this.1.1.2⟩, this.1.2, this.2⟩
  ·cases h
 ·cases h
theorem sumI_cons {E : Env} {f : FuncId} (hen : Enters E.P f) (hS : SumAt E.P f) : ∀ args s l, cSumI args s = .ok l → ∀ ι w vs, HRel ι s w → relL ι args vs → CallOk E f vs ι s w l := by
 intro args s l h ι w vs HR hrel
 unfold cSumI at h
 split at h
 ·rename_i v
  obtain ⟨x, vs', rfl, hx, hnil⟩ := hrel
  obtain rfl : vs' = [] := hnil
  split at h
  ·rename_i ps hps
   injection h with h; subst h
   obtain ⟨b, o, c, rfl, g1, g2, g3, g4, g5, g6⟩ := pairsOf_ok HR hps hx
   exact cons_val HR hen ⟨rfl, rfl⟩ (hS b o c ps w g1 g2 g3 g4 g5 g6)
  ·cases h
 ·cases h
theorem pickI_cons {E : Env} {f : FuncId} (hen : Enters E.P f) (hS : PickAt E.P f) : ∀ args s l, cPickI args s = .ok l → ∀ ι w vs, HRel ι s w → relL ι args vs → CallOk E f vs ι s w l := by
 intro args s l h ι w vs HR hrel
 unfold cPickI at h
 split at h
 ·rename_i v d
  obtain ⟨x, vs', rfl, hx, y, vs2, rfl, hy, hnil⟩ := hrel
  obtain rfl : vs2 = [] := hnil
  obtain ⟨rfl, _⟩ := hy
  split at h
  ·rename_i ps hps
   cases hc : decide (0 ≤ d) && decide (d < 18446744073709551616) && decide (1 ≤ sumI ps) with
   | false => rw [hc] at h; cases h
   | true =>
    rw [hc] at h
    injection h with h; subst h
    simp only [Bool.and_eq_true, decide_eq_true_eq] at hc
    obtain ⟨b, o, c, rfl, g1, g2, g3, g4, g5, g6⟩ := pairsOf_ok HR hps hx
    exact cons_val HR hen ⟨rfl, rfl⟩ (hS b o c ps d w g1 g2 g3 g4 g5 g6 hc.1.1 hc.1.2 hc.2)
  ·cases h
 ·cases h
end Go.Ev
namespace Go.Ev
open Go.RowKit (Below)
open Go.MapKept (Stamped)
/-! slices.Sorted at strings -/
def strV (l : List UInt8) : Value := .string ⟨l.toArray⟩
def strsG : List (List UInt8) → List AV := List.map fun l => .g (strV l)
def keyS : AV → Option (List UInt8)
 | .g (.string b) => cond (Nat.ble b.data.toList.length 1000) (some b.data.toList) none
 | _ => none
def keysS : List AEnt → Option (List (List UInt8))
 | [] => some []
 | e :: r => match keyS e.key with
  | some x => match keysS r with | some l => some (x :: l) | none => none
  | none => none
def insS (a : List UInt8) : List (List UInt8) → List (List UInt8)
 | [] => [a]
 | b :: r => cond (decide (a ≤ b)) (a :: b :: r) (b :: insS a r)
def sortS : List (List UInt8) → List (List UInt8)
 | [] => []
 | a :: r => insS a (sortS r)
def onceS : List (List UInt8) → Bool
 | [] => true
 | a :: r => r.all (fun b => !decide (a = b)) && onceS r
noncomputable def cSortS (gs : List Nat) (args : List AV) (s : St) : R (List (AV × St)) := match args with
 | [.func (.func g) [] [.ptr k 0]] => cond (gs.elem g) (match s.h.get k with
   | some (.cells [.g (.map none)]) => .ok [(.g (.slice none 0 0), s)]
   | some (.cells [.map km]) => match s.h.get km with
    | some (.map es clock) => match keysS es with
     | some l => cond (stampB es clock && onceS l) (.ok (newRow s (strsG (sortS l)) l.length 1)) (.err 804)
     | none => .err 803
    | _ => .err 805
   | _ => .err 800) (.err 801)
 | _ => .err 802
theorem insS_perm (a : List UInt8) : ∀ l, (insS a l).Perm (a :: l)
 | [] => .refl _
 | b :: r => by
  unfold insS
  cases decide (a ≤ b) with
  | true => exact .refl _
  | false => exact ((insS_perm a r).cons b).trans (.swap a b r)
theorem sortS_perm : ∀ l, (sortS l).Perm l
 | [] => .refl _
 | a :: r => (insS_perm a _).trans ((sortS_perm r).cons a)
theorem insS_sorted (a : List UInt8) : ∀ l, l.Pairwise (· ≤ ·) → (insS a l).Pairwise (· ≤ ·)
 | [], _ => by simp [insS]
 | b :: r, h => by
  unfold insS
  rw [List.pairwise_cons] at h
  by_cases hab : a ≤ b
  ·simp only [hab, decide_true, cond_true, List.pairwise_cons]
   refine ⟨fun c hc => ?_, h⟩
   rcases List.mem_cons.1 hc with rfl | hc
   ·exact hab
   ·exact Std.le_trans hab (h.1 c hc)
  ·simp only [hab, decide_false, cond_false, List.pairwise_cons]
   have hba : b ≤ a := (Std.le_total (a := a) (b := b)).resolve_left hab
   refine ⟨fun c hc => ?_, insS_sorted a r h.2⟩
   rcases List.mem_cons.1 ((insS_perm a r).mem_iff.1 hc) with rfl | hc
   ·exact hba
   ·exact h.1 c hc
theorem sortS_sorted : ∀ l, (sortS l).Pairwise (· ≤ ·)
 | [] => List.Pairwise.nil
 | a :: r => insS_sorted a _ (sortS_sorted r)
theorem sortS_eq {l m : List (List UInt8)} (h : m.Perm l) : m.mergeSort (fun x y => decide (x ≤ y)) = sortS l := by
 refine List.Perm.eq_of_pairwise (le := fun x y => x ≤ y) (fun a b _ _ h1 h2 => Std.le_antisymm h1 h2) ?_ (sortS_sorted l) (((List.mergeSort_perm m _).trans h).trans (sortS_perm l).symm)
 have := List.pairwise_mergeSort (le := fun x y : List UInt8 => decide (x ≤ y)) (fun a b c h1 h2 => by simp only [decide_eq_true_eq] at *; exact Std.le_trans h1 h2) (fun a b => by simp only [Bool.or_eq_true, decide_eq_true_eq]; exact Std.le_total) m
 exact this.imp (fun h => by simpa using h)
structure SortsS (P : Program) (f g : Nat) (T : TypeId) : Prop where
 nil : ∀ (w : World) (B : Nat), B < w.heap.size → w.cell? ⟨B, 0, none⟩ = some (.map none) →
  Calls P f #[.func (.func g) #[] #[.pointer (some ⟨B, 0, none⟩)]] w fun e w' => e = .returned (.slice none 0 0) ∧ Below w.heap.size w w'
 row : ∀ (w : World) (B b : Nat) (ms : List MapEntry) (clock : Nat) (l : List (List UInt8)), B < w.heap.size → w.cell? ⟨B, 0, none⟩ = some (.map (some b)) → w.heap[b]? = some (.map (List.toArray ms) clock) → Stamped (List.toArray ms) clock →
  ms.map (·.key) = l.map strV → (∀ x ∈ l, x.length ≤ 1000) → l.length ≤ 1000000 →
  Calls P f #[.func (.func g) #[] #[.pointer (some ⟨B, 0, none⟩)]] w fun e w' => ∃ v, e = .returned v ∧ w'.ownsRow w.heap.size T 1 v l.length ((sortS l).map strV) ∧ (v = .slice none 0 0 ↔ l.length = 0) ∧ Below w.heap.size w w'
theorem keyS_spec {a : AV} {l : List UInt8} (h : keyS a = some l) : a = .g (strV l) ∧ l.length ≤ 1000 := by
 unfold keyS at h
 split at h
 ·rename_i b
  cases hc : Nat.ble b.data.toList.length 1000 with
  | false => rw [hc] at h; cases h
  | true =>
   rw [hc] at h
   injection h with h; subst h
   rw [ble_eq] at hc
   exact ⟨rfl, of_decide_eq_true hc⟩
 ·cases h
theorem keysS_spec {ι : Io} : ∀ {es : List AEnt} {l : List (List UInt8)} {ms : List MapEntry}, keysS es = some l → relE ι es ms → ms.map (·.key) = l.map strV ∧ (∀ x ∈ l, x.length ≤ 1000) ∧ es.length = l.length
 | [], l, ms, h, hr => by
  injection h with h; subst h
  rw [show ms = [] from hr]
  simp
 | e :: r, l, ms, h, hr => by
  unfold keysS at h
  split at h
  ·rename_i x hx
   split at h
   ·rename_i l' hl'
    injection h with h; subst h
    obtain ⟨m, ms', rfl, h1, h2, h3, h4⟩ := hr
    obtain ⟨g1, g2, g3⟩ := keysS_spec hl' h4
    obtain ⟨k1, k2⟩ := keyS_spec hx
    rw [k1] at h1
    refine ⟨by simp [g1, h1.1], fun y hy => ?_, by simp [g3]⟩
    rcases List.mem_cons.1 hy with rfl | hy
    ·exact k2
    ·exact g2 y hy
   ·cases h
  ·cases h
theorem onceS_nodup : ∀ l, onceS l = true → l.Nodup
 | [], _ => List.nodup_nil
 | a :: r, h => by
  simp only [onceS, Bool.and_eq_true, List.all_eq_true] at h
  rw [List.nodup_cons]
  refine ⟨fun hm => ?_, onceS_nodup r h.2⟩
  have := h.1 a hm
  simp at this
theorem strsG_rel (ι : Io) : ∀ l, relL ι (strsG l) (l.map strV)
 | [] => rfl
 | a :: r => ⟨_, _, rfl, ⟨rfl, rfl⟩, strsG_rel ι r⟩
theorem sortS_cons {E : Env} {f : FuncId} {T : TypeId} {gs : List Nat} (hen : Enters E.P f) (hg : ∀ g, gs.elem g = true → SortsS E.P f g T) : ∀ args s l, cSortS gs args s = .ok l → ∀ ι w vs, HRel ι s w → relL ι args vs → CallOk E f vs ι s w l := by
 intro args s l h ι w vs HR hrel
 unfold cSortS at h
 split at h
 ·rename_i g k
  cases hge : gs.elem g with
  | false => rw [hge] at h; cases h
  | true =>
   rw [hge] at h
   have hS := hg g hge
   obtain ⟨v, vs', rfl, ⟨a', b', rfl, ha, hb⟩, hvs⟩ := hrel
   obtain rfl : a' = [] := ha
   obtain rfl : vs' = [] := hvs
   obtain ⟨pv, b2, rfl, ⟨lk, hlk, rfl⟩, hb2⟩ := hb
   obtain rfl : b2 = [] := hb2
   simp only [cond_true] at h
   split at h
   ·rename_i hk
    injection h with h; subst h
    obtain ⟨l', o, q1, q2, c, t, q3, q4, q5, q6⟩ := HR.blk k _ hk
    rw [hlk] at q1; injection q1 with q1; subst q1
    have hz := q6 rfl
    obtain ⟨v0, c1, c2⟩ := q5 0 _ rfl
    subst q3
    refine cons_val HR hen ⟨rfl, rfl⟩ ?_
    rw [hz]
    refine hS.nil w lk.b (Array.getElem?_eq_some_iff.1 q2).1 ?_
    rw [cell_of q2 0]
    rw [hz, Nat.zero_add] at c1
    rw [c1, c2.1]
   ·rename_i km hk
    split at h
    ·rename_i es clock hkm
     split at h
     ·rename_i ks hks
      cases hc : stampB es clock && onceS ks with
      | false => rw [hc] at h; cases h
      | true =>
       rw [hc] at h
       injection h with h; subst h
       rw [Bool.and_eq_true] at hc
       obtain ⟨l', o, q1, q2, c, t, q3, q4, q5, q6⟩ := HR.blk k _ hk
       rw [hlk] at q1; injection q1 with q1; subst q1
       have hz := q6 rfl
       obtain ⟨v0, c1, lm, hlm, c2⟩ := q5 0 _ rfl
       subst q3 c2
       obtain ⟨l2, o2, p1, p2, ms, p3, p4⟩ := HR.blk km _ hkm
       rw [hlm] at p1; injection p1 with p1; subst p1
       subst p3
       obtain ⟨g1, g2, g3⟩ := keysS_spec hks p4
       have hnd : (ms.map (·.key)).Nodup := by
        rw [g1]
        exact List.Pairwise.map _ (fun a b hab e => hab (by unfold strV at e; injection e with e; injection e with e; exact List.toArray_inj e)) (onceS_nodup ks hc.2)
       obtain ⟨st, hl⟩ := stamp_of p4 hc.1 hnd
       refine cons_row (T := T) HR hen (strsG_rel ι (sortS ks)) ?_
       rw [hz]
       refine hS.row w lk.b lm.b ms clock ks (Array.getElem?_eq_some_iff.1 q2).1 ?_ p2 st g1 g2 (by omega)
       rw [cell_of q2 0]
       rw [hz, Nat.zero_add] at c1
       rw [c1]
     ·cases h
    ·cases h
   ·cases h
 ·cases h
end Go.Ev
namespace Go.Ev
open Go.RowKit (Below)
/-! code that reads, and lays blocks of its own, and no more -/
noncomputable def quietO (o : Oper) : Bool := match cls o.op with
 | .val _ => true
 | .rd _ => true
 | .vr _ _ => true
 | .new _ => true
 | _ => false
noncomputable def quietC : Code → Bool
 | .region _ ops draw => !draw && ops.toList.all quietO
 | .seq a b => quietC a && quietC b
 | .cond _ a b => quietC a && quietC b
 | .skip => true
 | .ret => true
 | _ => false
theorem below_push (w : World) (ob : Obj) : Below w.heap.size w { w with heap := w.heap.push ob } :=
 ⟨rfl, rfl, rfl, by simp, fun k hk => by simp [Array.getElem?_push, Nat.ne_of_lt hk]⟩
theorem below_trans {a b c : World} (h : Below a.heap.size a b) (k : Below b.heap.size b c) : Below a.heap.size a c :=
 ⟨k.os.trans h.os, k.tape.trans h.tape, k.output.trans h.output, Nat.le_trans h.size k.size, fun i hi => (k.block i (Nat.lt_of_lt_of_le hi h.size)).trans (h.block i hi)⟩
theorem put_ds (fr : Fr) (d : Option Tmp) (v : AV) : (fr.put d v).ds = fr.ds := by cases d <;> rfl
section
variable {E : Env} (hE : EnvOk E) {F : CallF}
include hE
theorem evQ_ok {n : Nat} {ops : Array Oper} : ∀ (l : List Oper) (fr : Fr) (s : St) (r : List (Fr × St)), evOps E F ops l fr s = .ok r → (∀ o ∈ l, fitsO n o = true) → (∀ o ∈ l, quietO o = true) →
  ∀ (ι : Io) (w : World) (a : Act), FRel ι n fr a → HRel ι s w → ∀ Q : Exit → Act → World → Prop, (∀ p ∈ r, ∀ a' w' ι', Stp ι s w ι' p.2 w' → Below w.heap.size w w' → FRel ι' n p.1 a' → p.1.ds = fr.ds → Q .normal a' w') → wpList E.P ops Q l a w
 | [], fr, s, r, h, hfit, hq, ι, w, a, H, HR, Q, hQ => by
  injection h with h; subst h
  exact hQ _ (List.mem_singleton.2 rfl) a w ι (Stp.refl HR) (Below.refl _ _) H rfl
 | o :: os, fr, s, r, h, hfit, hq, ι, w, a, H, HR, Q, hQ => by
  have h : evOp E F ops o (evOps E F ops os) fr s = .ok r := h
  have hfo : ∀ d, o.dst = some d → d < n := by
   intro d hd
   have := hfit o (by simp)
   unfold fitsO at this
   rw [hd] at this
   simp only [blt_eq] at this
   exact of_decide_eq_true this
  have hfit' : ∀ o ∈ os, fitsO n o = true := fun o' ho' => hfit o' (by simp [ho'])
  have hq' : ∀ o ∈ os, quietO o = true := fun o' ho' => hq o' (by simp [ho'])
  have hqo := hq o (by simp)
  have next : ∀ (fr1 : Fr) (s1 : St) (r1 : List (Fr × St)) (ι1 : Io) (w1 : World) (a1 : Act), evOps E F ops os fr1 s1 = .ok r1 → (∀ q ∈ r1, q ∈ r) → Stp ι s w ι1 s1 w1 → Below w.heap.size w w1 → FRel ι1 n fr1 a1 → fr1.ds = fr.ds → wpList E.P ops Q os a1 w1 :=
   fun fr1 s1 r1 ι1 w1 a1 h1 hsub hst hb hfr hds => evQ_ok os fr1 s1 r1 h1 hfit' hq' ι1 w1 a1 hfr hst.h Q fun p hp a' w' ι' hst' hb' hfr' hds' => hQ p (hsub p hp) a' w' ι' (hst.trans hst') (below_trans hb hb') hfr' (hds'.trans hds)
  unfold evOp at h
  unfold wpList
  split at h
  ·rename_i hw
   rw [if_pos (wanted_ok H hw)]
   left
   have valc : ∀ (f : ValF) (av : AV), (cls o.op).valOf = some f → f E fr o = .ok av → evOps E F ops os (fr.put o.dst av) s = .ok r → o.wp E.P a w (wpList E.P ops Q os) Q := by
    intro f av hc hf hk
    obtain ⟨x, hx, hrun⟩ := val_ok hE H.ev hc hf
    unfold Oper.wp
    rw [hrun w]
    exact next _ _ r ι w _ hk (fun q hq => hq) (Stp.refl HR) (Below.refl _ _) (H.put hfo hx) (put_ds _ _ _)
   have rdc : ∀ (g : RdF) (av : AV), rdOf (cls o.op) = some g → g E fr s = .ok av → evOps E F ops os (fr.put o.dst av) s = .ok r → o.wp E.P a w (wpList E.P ops Q os) Q := by
    intro g av hc hf hk
    obtain ⟨x, hx, hrun⟩ := rd_ok hE H.ev HR hc hf
    unfold Oper.wp
    rw [hrun]
    exact next _ _ r ι w _ hk (fun q hq => hq) (Stp.refl HR) (Below.refl _ _) (H.put hfo hx) (put_ds _ _ _)
   unfold evCls at h
   unfold quietO at hqo
   split at h
   ·rename_i f hc
    unfold kVal at h
    split at h
    ·rename_i av hf; exact valc f av (by rw [hc]; rfl) hf h
    ·cases h
   ·rename_i g hc
    unfold kVal at h
    split at h
    ·rename_i av hf; exact rdc g av (by rw [hc]; rfl) hf h
    ·cases h
   ·rename_i f g hc
    split at h
    ·rename_i av hf; exact valc f av (by rw [hc]; rfl) hf h
    ·unfold kVal at h
     split at h
     ·rename_i av hf; exact rdc g av (by rw [hc]; rfl) hf h
     ·cases h
   ·rename_i g hc
    unfold kNew at h
    split at h
    ·rename_i x hf
     obtain ⟨av, s1⟩ := x
     obtain ⟨b, rfl, hn⟩ := new_ok hE H.ev hc hf
     obtain ⟨x, ob, m, hrun, hb, hx⟩ := hn w
     unfold Oper.wp
     rw [hrun]
     have hst := Stp.new (n := m) HR hb
     exact next _ _ r _ _ _ h (fun q hq => hq) hst (below_push w ob) ((H.sub hst.sub).put hfo (hx _ Io.up_self)) (put_ds _ _ _)
    ·cases h
   ·rename_i g hc; rw [hc] at hqo; cases hqo
   ·rename_i f g hc; rw [hc] at hqo; cases hqo
   ·rename_i c hc; rw [hc] at hqo; cases hqo
   ·rename_i hc; rw [hc] at hqo; cases hqo
  ·rename_i hw
   rw [if_neg (by rw [wanted_ok H hw]; simp)]
   exact next _ _ r ι w _ h (fun q hq => hq) (Stp.refl HR) (Below.refl _ _) (H.put hfo (undef_rel ι)) (put_ds _ _ _)
  ·cases h
def ComesQ (ι : Io) (n : Nat) (fr : Fr) (s : St) (w : World) (r : List Out) (Q : Exit → Act → World → Prop) : Prop :=
 ∀ p ∈ r, ∀ a' w' ι', Stp ι s w ι' p.s w' → Below w.heap.size w w' → FRel ι' n p.fr a' → p.fr.ds = fr.ds → Q (toExit p.e) a' w'
omit hE in
theorem ComesQ.seq {ι : Io} {n : Nat} {fr : Fr} {s : St} {w : World} {l r : List Out} {f : Out → R (List Out)} (h : bindL l f = .ok r) {Q Q' : Exit → Act → World → Prop} (hQ : ComesQ ι n fr s w r Q)
  (hs : ∀ o r', f o = .ok r' → ∀ a' w' ι', Stp ι s w ι' o.s w' → FRel ι' n o.fr a' → ComesQ ι' n o.fr o.s w' r' Q → Q' (toExit o.e) a' w') : ComesQ ι n fr s w l Q' := by
 intro o ho a' w' ι' hst hb hfr hds
 obtain ⟨r', h1, h2⟩ := bindL_mem h o ho
 exact hs o r' h1 a' w' ι' hst hfr fun p hp a'' w'' ι'' hst' hb' hfr' hds' => hQ p (h2 p hp) a'' w'' ι'' (hst.trans hst') (below_trans hb hb') hfr' (hds'.trans hds)
theorem codeQ {C : Cons} : ∀ (m : Nat) (c : Code), quietC c = true → ∀ n fr s r, ev E C m c fr s = .ok r → fitsC n c = true → ∀ ι w a, FRel ι n fr a → HRel ι s w → ∀ Q, ComesQ ι n fr s w r Q → c.wp E.P Q a w := by
 intro m
 induction m with
 | zero => intro c _ n fr s r h; cases h
 | succ m ih =>
  intro c hq n fr s r h hfit ι w a H HR Q hQ
  have h : stepOf c E C (ev E C m) fr s = .ok r := h
  cases c with
  | skip => injection h with h; subst h; exact wp_skip (hQ _ (List.mem_singleton.2 rfl) a w ι (Stp.refl HR) (Below.refl _ _) H rfl)
  | ret => injection h with h; subst h; exact wp_ret (hQ _ (List.mem_singleton.2 rfl) a w ι (Stp.refl HR) (Below.refl _ _) H rfl)
  | region id ops draw =>
   unfold quietC at hq
   rw [Bool.and_eq_true] at hq
   cases draw with
   | true => cases hq.1
   | false =>
    obtain ⟨l, hl, rfl⟩ := outs_mem h
    refine wp_region_list (evQ_ok hE ops.toList fr s l hl (fun o ho => List.all_eq_true.1 hfit o ho) (fun o ho => List.all_eq_true.1 hq.2 o ho) ι w a H HR Q fun p hp a' w' ι' hst hb hfr hds => ?_)
    exact hQ ⟨.normal, p.1, p.2⟩ (List.mem_map.2 ⟨p, hp, rfl⟩) a' w' ι' hst hb hfr hds
  | seq x y =>
   have h : sSeq (ev E C m) y (ev E C m x fr s) = .ok r := h
   have hfit : (fitsC n x && fitsC n y) = true := hfit
   unfold quietC at hq
   rw [Bool.and_eq_true] at hfit hq
   unfold sSeq at h
   split at h
   ·rename_i l hl
    refine wp_seq (ih x hq.1 n fr s l hl hfit.1 ι w a H HR _ (ComesQ.seq h hQ fun o r' ho a' w' ι' hst hfr hc => ?_))
    cases he : o.e with
    | normal =>
     rw [he] at ho
     exact ih y hq.2 n o.fr o.s r' ho hfit.2 ι' w' a' hfr hst.h Q hc
    | exit id =>
     rw [he] at ho
     injection ho with ho; subst ho
     have := hc o (List.mem_singleton.2 rfl) a' w' ι' (Stp.refl hst.h) (Below.refl _ _) hfr rfl
     rw [he] at this; exact this
    | ret =>
     rw [he] at ho
     injection ho with ho; subst ho
     have := hc o (List.mem_singleton.2 rfl) a' w' ι' (Stp.refl hst.h) (Below.refl _ _) hfr rfl
     rw [he] at this; exact this
   ·cases h
  | cond x y z =>
   have h : sCond (ev E C m) y z fr s (aev fr x) = .ok r := h
   have hfit : (fitsC n y && fitsC n z) = true := hfit
   unfold quietC at hq
   rw [Bool.and_eq_true] at hfit hq
   unfold sCond at h
   split at h
   ·rename_i t ht
    have hb := (aev_rel H ht).1
    refine wp_cond hb ?_
    cases t with
    | true => exact ih y hq.1 n fr s r h hfit.1 ι w a H HR Q hQ
    | false => exact ih z hq.2 n fr s r h hfit.2 ι w a H HR Q hQ
   ·cases h
   ·cases h
  | label l => cases hq
  | exit id => cases hq
  | goto l => cases hq
  | rangeFunc _ _ _ _ => cases hq
  | refuse _ => cases hq
  | block id b => cases hq
  | loop b => cases hq
  | scope b => cases hq
/-- a call of quiet code -/
theorem callQ {C : Cons} {m : Nat} {f : FuncId} {fn : Func} {b : Code} (hC : C f = none) (hfn : E.fn.get f = some (some fn)) (hb : fn.body = some b) (hq : quietC b = true) {args : List AV} {s : St} {l : List (AV × St)} (h : evCall E C m f args s = .ok l)
  {ι : Io} {w : World} {vs : List Value} (HR : HRel ι s w) (hv : relL ι args vs) :
  Enters E.P f ∧ Calls E.P f (List.toArray vs) w fun e w' => ∃ x, e = .returned x ∧ Ret ι s w l x w' ∧ Below w.heap.size w w' := by
 unfold evCall callOf enter at h
 simp only [hC, hfn, hb] at h
 rw [R.cond_ok, ble_eq] at h
 obtain ⟨g, h⟩ := h
 have g := of_decide_eq_true g
 refine ⟨callFunc_enter hE hfn hb, ?_⟩
 split at h
 ·rename_i outs ho
  have h := tell_ok hE h
  refine calls_of_wp_defers (hE.fn f fn hfn) hb (codeQ hE m b hq fn.ntmps _ s outs ho (hE.fit f fn b hfn hb) ι w _ (entry_rel hv g) HR _ fun p hp a' w' ι' hst hbl hfr hds => ?_)
  obtain ⟨r', h1, h2⟩ := bindL_mem h p hp
  unfold atEnd at h1
  split at h1
  ·cases h1
  ·rename_i hex
   have hds : p.fr.ds = [] := hds
   simp only [hds, runDefers] at h1
   simp only [mapR] at h1
   split at h1
   ·rename_i v hv'
    split at hv'
    ·rename_i v2 hv2
     injection hv' with hv'; subst hv'
     injection h1 with h1; subst h1
     obtain ⟨x, hx, hrun⟩ := results_ok hE hfr hst.h hv2
     have hd : a'.defers = [] := by
      have := hfr.ds
      rw [hds] at this
      exact this
     have hfin : Leaves E.P fn a'.tmps (fun e w' => ∃ x, e = .returned x ∧ Ret ι s w l x w' ∧ Below w.heap.size w w') a'.defers .returning w' := by
      rw [hd]
      exact ⟨x, hrun, x, rfl, ⟨_, h2 _ (List.mem_singleton.2 rfl), ι', hst, hx⟩, hbl⟩
     cases he : p.e with
     | normal => exact hfin
     | ret => exact hfin
     | exit id => exact absurd he (hex id)
    ·cases hv'
   ·cases h1
 ·cases (tell_ok hE h)
end
end Go.Ev
namespace Go.Ev
open Go.RowKit (Below)
/-! zones.count, zones.ids: at one endpoint -/
def AskAt (P : Program) (w : World) (fa : FuncId) (args : Array Value) (b : Bool) : Prop :=
 Enters P fa ∧ ∀ w1, Below w.heap.size w w1 → Calls P fa args w1 fun e w2 => e = .returned (.bool b) ∧ Below w1.heap.size w1 w2
/-- what the closure of zones.each bears -/
structure EachAt (P : Program) (w : World) (p p' : Addr) (x0 x1 x2 : Int) (b : Bool) : Prop where
 lt : p.block < w.heap.size
 lt' : p'.block < w.heap.size
 row : ∃ v, w.cell? p = some v ∧ RowAt w v 1 [.int .i64 x0, .int .i64 x1, .int .i64 x2]
 ask : ∃ fa fi ca, w.cell? p' = some (.func (.func fa) fi ca) ∧ AskAt P w fa (fi ++ #[.agg #[.int .i64 x0, .int .i64 x1, .int .i64 x2]] ++ ca) b
def CountAt (P : Program) (f g : FuncId) : Prop := ∀ (w : World) (b1 o1 b2 o2 : Nat) (x0 x1 x2 : Int) (b : Bool), EachAt P w ⟨b1, o1, none⟩ ⟨b2, o2, none⟩ x0 x1 x2 b →
 Calls P f #[.func (.func g) #[] #[.pointer (some ⟨b1, o1, none⟩), .pointer (some ⟨b2, o2, none⟩)]] w fun e w' => e = .returned (.int .i64 (cond b 1 0)) ∧ Below w.heap.size w w'
def IdsAt (P : Program) (f g : FuncId) (T : TypeId) : Prop := ∀ (w : World) (b1 o1 b2 o2 : Nat) (x x1 x2 : Int) (b : Bool), EachAt P w ⟨b1, o1, none⟩ ⟨b2, o2, none⟩ x x1 x2 b →
 Calls P f #[.func (.func g) #[] #[.pointer (some ⟨b1, o1, none⟩), .pointer (some ⟨b2, o2, none⟩)]] w fun e w' => ∃ v, e = .returned v ∧ w'.ownsRow w.heap.size T 1 v (cond b 1 0) (cond b [.int .i64 x] []) ∧ (v = .slice none 0 0 ↔ (cond b 1 0) = 0) ∧ Below w.heap.size w w'
/-- the endpoint, and what is said of it -/
noncomputable def oneOf (F : CallF) (g : Nat) (asks : List Nat) (args : List AV) (s : St) : R (Int × Int × Int × Bool) := match args with
 | [.func (.func g') [] [.ptr k 0, .ptr k' 0]] => cond (Nat.beq g' g) (match acellsR s k, acellsR s k' with
  | .ok [v], .ok [.func (.func fa) fi ca] => cond (asks.elem fa) (match rowOf s v with
   | .ok (1, [.g (.int .i64 x0), .g (.int .i64 x1), .g (.int .i64 x2)]) => match F fa (fi ++ [.agg [.g (.int .i64 x0), .g (.int .i64 x1), .g (.int .i64 x2)]] ++ ca) s with
    | .ok [(.g (.bool b), _)] => .ok (x0, x1, x2, b)
    | .ok _ => .err 840
    | .err c => .err c
   | .ok _ => .err 841
   | .err c => .err c) (.err 842)
  | _, _ => .err 843) (.err 844)
 | _ => .err 845
noncomputable def cCountI (F : CallF) (g : Nat) (asks : List Nat) (args : List AV) (s : St) : R (List (AV × St)) := match oneOf F g asks args s with
 | .ok p => .ok [(.g (.int .i64 (cond p.2.2.2 1 0)), s)]
 | .err c => .err c
noncomputable def cIdsI (F : CallF) (g : Nat) (asks : List Nat) (args : List AV) (s : St) : R (List (AV × St)) := match oneOf F g asks args s with
 | .ok p => .ok (newRow s (cond p.2.2.2 [.g (.int .i64 p.1)] []) (cond p.2.2.2 1 0) 1)
 | .err c => .err c
/-- functions that are quiet -/
def Quiets (E : Env) (C : Cons) (asks : List Nat) : Prop := ∀ fa, asks.elem fa = true → C fa = none ∧ ∃ fn b, E.fn.get fa = some (some fn) ∧ fn.body = some b ∧ quietC b = true
theorem oneOf_ok {E : Env} (hE : EnvOk E) {C : Cons} {m : Nat} {g : Nat} {asks : List Nat} (hq : Quiets E C asks) {args : List AV} {s : St} {c0 c1 c2 : Int} {b : Bool} (h : oneOf (evCall E C m) g asks args s = .ok (c0, c1, c2, b))
  {ι : Io} {w : World} {vs : List Value} (HR : HRel ι s w) (hrel : relL ι args vs) :
  ∃ b1 o1 b2 o2, vs = [.func (.func g) #[] #[.pointer (some ⟨b1, o1, none⟩), .pointer (some ⟨b2, o2, none⟩)]] ∧ EachAt E.P w ⟨b1, o1, none⟩ ⟨b2, o2, none⟩ c0 c1 c2 b := by
 unfold oneOf at h
 split at h
 ·rename_i g' k k'
  cases hg : Nat.beq g' g with
  | false => rw [hg] at h; cases h
  | true =>
   rw [hg] at h
   rw [beq_eq] at hg
   have hg := of_decide_eq_true hg
   subst hg
   simp only [cond_true] at h
   obtain ⟨x, vs', rfl, ⟨a', b', rfl, ha, hb⟩, hvs⟩ := hrel
   obtain rfl : a' = [] := ha
   obtain rfl : vs' = [] := hvs
   obtain ⟨pv, b2, rfl, ⟨lk, hlk, rfl⟩, pv2, b3, rfl, ⟨lk', hlk', rfl⟩, hb3⟩ := hb
   obtain rfl : b3 = [] := hb3
   split at h
   ·rename_i v fa fi ca hk hk'
    cases hae : asks.elem fa with
    | false => rw [hae] at h; cases h
    | true =>
     rw [hae] at h
     simp only [cond_true] at h
     split at h
     ·rename_i d0 d1 d2 hrow
      split at h
      ·rename_i bb s2 hF
       injection h with h
       injection h with e0 h
       injection h with e1 h
       injection h with e2 e3
       subst e0 e1 e2 e3
       obtain ⟨cc, t, f, g1, g2, g3⟩ := acellsR_spec HR hk hlk
       obtain ⟨cc', t', f', g1', g2', g3'⟩ := acellsR_spec HR hk' hlk'
       obtain ⟨y, y1, y2⟩ := g3 0 _ rfl
       obtain ⟨z, z1, fi', ca', rfl, z2, z3⟩ := g3' 0 _ rfl
       obtain ⟨ys, k1, k2⟩ := rowOf_ok HR hrow y2
       obtain ⟨q0, ys1, rfl, r0, q1, ys2, rfl, r1, q2, ys3, rfl, r2, rn⟩ := k1
       obtain rfl : ys3 = [] := rn
       have r0' := r0
       have r1' := r1
       have r2' := r2
       obtain ⟨rfl, _⟩ := r0
       obtain ⟨rfl, _⟩ := r1
       obtain ⟨rfl, _⟩ := r2
       refine ⟨lk.b, lk.s + 0, lk'.b, lk'.s + 0, rfl, (Array.getElem?_eq_some_iff.1 g1).1, (Array.getElem?_eq_some_iff.1 g1').1, ⟨y, ?_, k2⟩, fa, List.toArray fi', List.toArray ca', ?_, ?_⟩
       ·rw [cell_of g1]; exact y1
       ·rw [cell_of g1']; exact z1
       ·obtain ⟨hC, fn, bd, hfn, hbd, hqb⟩ := hq fa hae
        have hargs : relL ι (fi ++ [.agg [.g (.int .i64 d0), .g (.int .i64 d1), .g (.int .i64 d2)]] ++ ca) (fi' ++ [.agg (List.toArray [.int .i64 d0, .int .i64 d1, .int .i64 d2])] ++ ca') :=
         (z2.append (show relL ι [.agg [.g (.int .i64 d0), .g (.int .i64 d1), .g (.int .i64 d2)]] [.agg (List.toArray [.int .i64 d0, .int .i64 d1, .int .i64 d2])] from ⟨_, _, rfl, ⟨_, rfl, _, _, rfl, r0', _, _, rfl, r1', _, _, rfl, r2', rfl⟩, rfl⟩)).append z3
        refine ⟨(callQ hE hC hfn hbd hqb hF HR hargs).1, fun w1 hw1 => ?_⟩
        have := (callQ hE hC hfn hbd hqb hF (Stp.below HR hw1).h hargs).2
        have earr : List.toArray (fi' ++ [.agg (List.toArray [.int .i64 d0, .int .i64 d1, .int .i64 d2])] ++ ca') = List.toArray fi' ++ #[.agg #[.int .i64 d0, .int .i64 d1, .int .i64 d2]] ++ List.toArray ca' := by simp
        rw [earr] at this
        refine this.mono ?_
        rintro e w2 ⟨x, rfl, ⟨p, hp, ι', _, hx⟩, hb2⟩
        rw [List.mem_singleton.1 hp] at hx
        exact ⟨by rw [hx.1], hb2⟩
      ·cases h
      ·cases h
     ·cases h
     ·cases h
   ·cases h
 ·cases h
theorem countI_cons {E : Env} (hE : EnvOk E) {C : Cons} {m : Nat} {f g : Nat} {asks : List Nat} (hq : Quiets E C asks) (hen : Enters E.P f) (hZ : CountAt E.P f g) : ∀ args s l, cCountI (evCall E C m) g asks args s = .ok l → ∀ ι w vs, HRel ι s w → relL ι args vs → CallOk E f vs ι s w l := by
 intro args s l h ι w vs HR hrel
 unfold cCountI at h
 split at h
 ·rename_i p hp
  obtain ⟨c0, c1, c2, b⟩ := p
  injection h with h; subst h
  obtain ⟨b1, o1, b2, o2, rfl, hEa⟩ := oneOf_ok hE hq hp HR hrel
  exact cons_val HR hen ⟨rfl, rfl⟩ (hZ w b1 o1 b2 o2 c0 c1 c2 b hEa)
 ·cases h
theorem idsI_cons {E : Env} (hE : EnvOk E) {C : Cons} {m : Nat} {f g : Nat} {T : TypeId} {asks : List Nat} (hq : Quiets E C asks) (hen : Enters E.P f) (hZ : IdsAt E.P f g T) : ∀ args s l, cIdsI (evCall E C m) g asks args s = .ok l → ∀ ι w vs, HRel ι s w → relL ι args vs → CallOk E f vs ι s w l := by
 intro args s l h ι w vs HR hrel
 unfold cIdsI at h
 split at h
 ·rename_i p hp
  obtain ⟨c0, c1, c2, b⟩ := p
  injection h with h; subst h
  obtain ⟨b1, o1, b2, o2, rfl, hEa⟩ := oneOf_ok hE hq hp HR hrel
  refine cons_row (T := T) HR hen ?_ (hZ w b1 o1 b2 o2 c0 c1 c2 b hEa)
  cases b with
  | true => exact ⟨_, _, rfl, ⟨rfl, rfl⟩, rfl⟩
  | false => exact rfl
 ·cases h
end Go.Ev
namespace Go.Proofs
open Go Go.Ev
theorem prog_mixed : Tryz.prog.follows .mixedOrders = true := by decide +kernel
theorem prog_name : nameAll Tryz.prog = true := by decide +kernel
theorem prog_fit : fitAll Tryz.prog = true := by decide +kernel
theorem prog_named : namedAll Tryz.prog = true := by decide +kernel
theorem prog_nt : Tryz.prog.types.size < 2 ^ 12 := by decide +kernel
theorem prog_nf : Tryz.prog.funcs.size < 2 ^ 12 := by decide +kernel
noncomputable def E1 : Env := envF Tryz.prog
theorem E1_ok : EnvOk E1 := envF_ok prog_nt prog_nf prog_named prog_fit prog_name prog_mixed
end Go.Proofs
namespace Go.Proofs
open Go Go.Ev
noncomputable def C1 : Cons := fun f => cond (Nat.beq f 129) (some (cSortS [207])) (cond (Nat.beq f 192) (some (cSortI [290, 301, 361, 499, 562])) (cond (Nat.beq f 320) (some cSumI) (cond (Nat.beq f 244) (some cPickI) (cond (Nat.beq f 264) (some cJoinS) none))))
noncomputable def asks : List Nat := [559, 579, 581, 582, 583]
noncomputable def C2 : Cons := fun f => cond (Nat.beq f 578) (some (cCountI (evCall E1 C1 1000) 580 asks)) (cond (Nat.beq f 554) (some (cIdsI (evCall E1 C1 1000) 580 asks)) (C1 f))
/-- the loop of a function that is a loop and no more -/
noncomputable def loopB (c : Option Code) : Code := match c with
 | some (.block _ (.loop b)) => b
 | _ => .skip
noncomputable def runB : Code := loopB Tryz.f20.body
noncomputable def runF (m : AV) : Fr := ⟨enterF 0 [m, .g (.int .i64 200)] .leaf, []⟩
/-- a memory that has turned in places -/
noncomputable def upd (l : List (Nat × ABlk)) (gone : List Nat) (new : List (Nat × ABlk)) : List (Nat × ABlk) := new ++ l.filter fun p => !(gone.any (Nat.beq p.1) || new.any fun q => Nat.beq p.1 q.1)
end Go.Proofs
