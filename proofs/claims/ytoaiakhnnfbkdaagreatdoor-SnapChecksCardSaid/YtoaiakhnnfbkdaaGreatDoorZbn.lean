/- Lemmas. -/
import Derived.Laws.AppendOwn
import Derived.Test.YtoaiakhnnfbkdaaGreatDoorZcb
import Derived.Test.YtoaiakhnnfbkdaaGreatDoorZcp
import Derived.Test.YtoaiakhnnfbkdaaGreatDoorCfJ
import Derived.Test.YtoaiakhnnfbkdaaGreatDoorZy
import Derived.Test.YtoaiakhnnfbkdaaGreatDoorGnC
set_option maxRecDepth 100000
set_option maxHeartbeats 32000000
namespace Go.Proofs.YtoaiakhnnfbkdaaGreatDoor
open Go.ChangeShapes Go.WideShapes Go.ChangeAt Go.RowKit Go.Lib Go.Shelf Go.Maps
theorem run_append_place2 {P : Program} {w : World} (base : Nat) (t ty e : TypeId) (i : TypeInfo) (z : Value) (size bytes : Nat) (ht : P.underlying t = some (.slice e)) (hi : P.info? e = some i) (hz : i.zero = some z)
  (hsize : i.size = size) (hby : i.bytes = bytes) (v : Value) (n : Nat) (xs : List Value) (hown : w.ownsRow base e size v n xs)
  (a : Addr) (m c : Nat) (news : List Value) (hl : news.length = m * size) (hnews : ∀ j u,news[j]? = some u -> w.cell? (a.add j) = some u) (h1 : ∀ u ∈ news,u.oneCell' = true) (hm : 0 < m)
  (h63 : n + m <= maxLen) (hbytes : (n + m) * bytes <= 140737488355328) {v' : Value} {w' : World} (hrun : (Builtin.append_ #[t,t] ty #[v,.slice (some a) m c]).run P w = .ok v' w') :
  (v'.ownBlock = v.ownBlock /\ ∀ a0 c0,v = .slice a0 n c0 -> n + m <= c0) \/ (v'.ownBlock = some w.heap.size /\ Ext w w') := by
 subst hsize;subst hby
 have hsmall : n + m <= 9223372036854775807 := by simp only [maxLen] at h63; omega
 rcases hown.2 with ⟨rfl,rfl⟩ | ⟨g,cap,cur,rfl,hbg,hg,hnc,hcm,hcs,htake⟩
 ·have hr := run_append_nil (P := P) w t ty e i z ht hi hz a m c news hl hnews hm (by omega) (by have hb := hbytes; simp only [Nat.zero_add] at hb; omega);rw [hr] at hrun;cases hrun;exact .inr ⟨rfl,zb.drew.alloc (Nat.le_refl _) _⟩
 ·by_cases hroom : n + m <= cap
  ·have hfit : n * i.size + news.length <= cur.size := (by rw [hl,hcs,<- Nat.add_mul]; exact Nat.mul_le_mul_right _ hroom);have hr := run_append_room (P := P) w t ty e i ht hi g n cap cur hg a m c news hl hnews h1 hroom hfit;rw [hr] at hrun;cases hrun;exact .inl ⟨rfl,fun a0 c0 e => by cases e; exact hroom⟩
  ·have holds : ∀ j u,xs[j]? = some u -> w.cell? ((⟨g,0,none⟩ : Addr).add j) = some u := hown.cells (g := g) rfl;have hr := run_append_grow (P := P) w t ty e i z ht hi hz ⟨g,0,none⟩ n cap xs hown.1 holds a m c news hl hnews (by omega) (by omega) (growslice_fits (by omega) hbytes);rw [hr] at hrun;cases hrun;exact .inr ⟨rfl,zb.drew.alloc (Nat.le_refl _) _⟩
theorem wpList_append_place2 {P : Program} {w : World} {ops : Array Oper} {rest : List Oper} {o : Oper} {a : Act} {Q : Exit -> Act -> World -> Prop} (hgd : o.guard = none) (s x : Operand) (t : TypeId)
  (ho : o.op = .call { callee := .builtin .append,args := #[s,x],argTypes := #[t,t] })
  (base : Nat) (e : TypeId) (i : TypeInfo) (z : Value) (size bytes : Nat) (ht : P.underlying t = some (.slice e)) (hi : P.info? e = some i) (hz : i.zero = some z)
  (hsize : i.size = size) (hby : i.bytes = bytes) (hzs : z.cells.size = size) (hsz : 0 < size)
  (v : Value) (n : Nat) (xs : List Value) (hs : a.eval s = v) (hown : w.ownsRow base e size v n xs)
  (ad : Addr) (m c : Nat) (news : List Value) (hx : a.eval x = .slice (some ad) m c) (hl : news.length = m * size) (hnews : ∀ j u,news[j]? = some u -> w.cell? (ad.add j) = some u) (h1 : ∀ u ∈ news,u.oneCell' = true) (hm : 0 < m)
  (h63 : n + m <= maxLen) (hbytes : (n + m) * bytes <= 140737488355328) (hbase : base <= w.heap.size)
  (h : ∀ v' w',w'.ownsRow base e size v' (n + m) (xs ++ news) -> w.grownBy w' v.ownBlock -> ((v'.ownBlock = v.ownBlock /\ ∀ a0 c0,v = .slice a0 n c0 -> n + m <= c0) \/ (v'.ownBlock = some w.heap.size /\ Ext w w')) -> wpList P ops Q rest (a.put o.dst v') w') : wpList P ops Q (o :: rest) a w := by
 refine wpList_plain hgd fun K hK => ?_;obtain ⟨v',w',hr,h2,h3,-⟩ := run_append_own (P := P) w base t o.type e i z size bytes ht hi hz hsize hby hzs hsz v n xs hown ad m c news hl hnews h1 h63 hbytes hbase;have h4 := run_append_place2 base t o.type e i z size bytes ht hi hz hsize hby v n xs hown ad m c news hl hnews h1 hm h63 hbytes hr;unfold Oper.wp execOp;simp only [ho,resolve,invoke,builtin,Sem.run_bind,Sem.run_pure,Result.andThen_ok,List.map_toArray,List.map_cons,List.map_nil,hs,hx,hr];exact hK _ _ (h v' w' h2 h3 h4)
theorem frame288 (x : Nat -> Value) : frameOf 288 x = #[x 0,x 1,x 2,x 3,x 4,x 5,x 6,x 7,x 8,x 9,x 10,x 11,x 12,x 13,x 14,x 15,x 16,x 17,x 18,x 19,x 20,x 21,x 22,x 23,x 24,x 25,x 26,x 27,x 28,x 29,x 30,x 31,x 32,x 33,x 34,x 35,x 36,x 37,x 38,x 39,x 40,x 41,x 42,x 43,x 44,x 45,x 46,x 47,x 48,x 49,x 50,x 51,x 52,x 53,x 54,x 55,x 56,x 57,x 58,x 59,x 60,x 61,x 62,x 63,x 64,x 65,x 66,x 67,x 68,x 69,x 70,x 71,x 72,x 73,x 74,x 75,x 76,x 77,x 78,x 79,x 80,x 81,x 82,x 83,x 84,x 85,x 86,x 87,x 88,x 89,x 90,x 91,x 92,x 93,x 94,x 95,x 96,x 97,x 98,x 99,x 100,x 101,x 102,x 103,x 104,x 105,x 106,x 107,x 108,x 109,x 110,x 111,x 112,x 113,x 114,x 115,x 116,x 117,x 118,x 119,x 120,x 121,x 122,x 123,x 124,x 125,x 126,x 127,x 128,x 129,x 130,x 131,x 132,x 133,x 134,x 135,x 136,x 137,x 138,x 139,x 140,x 141,x 142,x 143,x 144,x 145,x 146,x 147,x 148,x 149,x 150,x 151,x 152,x 153,x 154,x 155,x 156,x 157,x 158,x 159,x 160,x 161,x 162,x 163,x 164,x 165,x 166,x 167,x 168,x 169,x 170,x 171,x 172,x 173,x 174,x 175,x 176,x 177,x 178,x 179,x 180,x 181,x 182,x 183,x 184,x 185,x 186,x 187,x 188,x 189,x 190,x 191,x 192,x 193,x 194,x 195,x 196,x 197,x 198,x 199,x 200,x 201,x 202,x 203,x 204,x 205,x 206,x 207,x 208,x 209,x 210,x 211,x 212,x 213,x 214,x 215,x 216,x 217,x 218,x 219,x 220,x 221,x 222,x 223,x 224,x 225,x 226,x 227,x 228,x 229,x 230,x 231,x 232,x 233,x 234,x 235,x 236,x 237,x 238,x 239,x 240,x 241,x 242,x 243,x 244,x 245,x 246,x 247,x 248,x 249,x 250,x 251,x 252,x 253,x 254,x 255,x 256,x 257,x 258,x 259,x 260,x 261,x 262,x 263,x 264,x 265,x 266,x 267,x 268,x 269,x 270,x 271,x 272,x 273,x 274,x 275,x 276,x 277,x 278,x 279,x 280,x 281,x 282,x 283,x 284,x 285,x 286,x 287] := rfl
theorem of_frame288 {P : Program} {C : Code} {Q : Exit -> Act -> World -> Prop} {W : World} (A : Array Value) (hA : A.size = 288) (h : Code.wp P C Q ⟨frameOf 288 (fun t => A.getD t undef),[]⟩ W) : Code.wp P C Q ⟨A,[]⟩ W := by
 have e := frameOf_self ⟨A,[]⟩;simp only [hA] at e;rw [e];exact h
theorem bnInfoT : (Tryz.prog.info? 55).map (fun i => (i.zero,i.size,i.bytes)) = some (some (.agg #[.int .i64 0,.int .i64 0,.int .i64 0]),3,24) := by kernel_rfl
theorem BoxC.grownT {w w' : World} {b B n : Nat} {c : ConfD} {v : Value} {xs : List Value} (h : BoxC w b c) (ho : w.ownsRow B 55 3 v n xs) (hg : w.grownBy w' v.ownBlock) : BoxC w' b c :=
 (hg.block b h.lt (fun e => absurd (owns_type ho e.symm h) (by decide))).trans h
noncomputable def bentTail (n : Nat) : Code := rightOf n ((Tryz.f6.body).getD .skip)
theorem Keeps.setNew {X : Nat -> Prop} {W w' : World} (h : Keeps X W w') {g : Nat} (hg : W.heap.size <= g) (j : Nat) (u : Value) : Keeps X W (w'.setCell ⟨g,j,none⟩ u) := by
 have k := Keeps.of_set (X := fun q => q = g) w' g j u rfl;exact ⟨k.os.trans h.os,k.tape.trans h.tape,k.output.trans h.output,Nat.le_trans h.size k.size,fun i hi hx => (k.block i (Nat.lt_of_lt_of_le hi h.size) (by omega)).trans (h.block i hi hx)⟩
def BnCnt (c d : ConfD) (m q : Nat) : Prop := d.S.length <= c.S.length + 11 /\ (d.E.length = c.E.length + q /\ q <= 36) /\ d.T.length <= c.T.length + 6 /\ d.R.length = c.R.length /\ m <= 6 /\ (m = 0 \/ d.T.length = c.T.length + m)
def BnLen (c : ConfD) : Prop := c.S.length <= 500 /\ c.E.length <= 500 /\ c.T.length <= 500 /\ c.R.length <= 500 /\ 0 < c.S.length /\ 0 < c.E.length /\ 0 < c.R.length
def tvX (c : ConfD) (q : Nat) : Prop := c.tv.ownBlock = some q /\ ¬ TvF c
abbrev ftX (c d : ConfD) (w0 : World) : Prop := ∀ g,d.tv.ownBlock = some g -> (c.tv.ownBlock = some g /\ (¬ TvF c \/ (d.tv = c.tv /\ d.T = c.T))) \/ w0.heap.size <= g
def BentP (B : Nat) (c : ConfD) (w : World) (e : Ending) (w' : World) : Prop := ∃ c' m,e = .returned c'.val /\ ConfOwn B w' c' /\ ConfFit c' /\ BnCnt c c' m (m * m) /\ 0 < c'.S.length /\ 0 < c'.E.length /\ 0 < c'.R.length /\ ftX c c' w /\ Keeps (tvX c) w w'
structure BnSt (B : Nat) (w0 W : World) (b3 b6 : Nat) (c d : ConfD) (m q : Nat) : Prop where
 box : ∃ v1 v2 v3,BoxC W b3 { d with sv := v1,ev := v2,rv := v3 }
 s : W.ownsRow w0.heap.size 51 7 d.sv d.S.length (d.S.flatMap encV)
 k : ∀ s ∈ d.S,W.ownsRow B 9 1 s.kv s.K.length (s.K.flatMap encS)
 e : W.ownsRow w0.heap.size 53 3 d.ev d.E.length (d.E.flatMap encE)
 r : W.ownsRow w0.heap.size 69 19 d.rv d.R.length (d.R.flatMap encR)
 rr : ∀ r ∈ d.R,RuleOwn B W r
 t : W.ownsRow B 55 3 d.tv d.T.length (d.T.flatMap encT)
 ft : ftX c d w0
 fs : ∀ s ∈ d.S,SvcFit s
 fe : ∀ e ∈ d.E,EndFit e
 fr : ∀ r ∈ d.R,RuleFit r /\ I64 r.mi
 len : BnLen c
 cnt : BnCnt c d m q
 pos : 0 < d.S.length /\ 0 < d.E.length /\ 0 < d.R.length
 keep : Keeps (tvX c) w0 W
 six : ∃ cs : Array Value,W.heap[b6]? = some (.cells cs 30 (0,0)) /\ cs.size = 20
 h3 : w0.heap.size <= b3
 h6 : w0.heap.size <= b6
 ne : b6 ≠ b3
 hB : B <= w0.heap.size
section
variable {B : Nat} {w0 W W' : World} {b3 b6 : Nat} {c d : ConfD} {m q : Nat}
theorem BnSt.own (h : BnSt B w0 W b3 b6 c d m q) : ConfOwn B W d := ⟨owns_mono h.s h.hB,h.k,owns_mono h.e h.hB,owns_mono h.r h.hB,h.rr,h.t⟩
theorem BnSt.conf (h : BnSt B w0 W b3 b6 c d m q) : ConfFit d := by
 obtain ⟨c1,⟨c2,c5⟩,c3,c4,-⟩ := h.cnt;obtain ⟨l1,l2,l3,l4,-⟩ := h.len;exact ⟨h.fs,h.fe,h.fr,by omega,by omega,by omega,by omega⟩
theorem BnSt.ext (h : BnSt B w0 W b3 b6 c d m q) (e : Ext W W') : BnSt B w0 W' b3 b6 c d m q := by
 obtain ⟨v1,v2,v3,hb⟩ := h.box;obtain ⟨cs,h6,hcs⟩ := h.six;exact ⟨⟨v1,v2,v3,hb.ext e⟩,owns_ext h.s e,fun s hs => owns_ext (h.k s hs) e,owns_ext h.e e,owns_ext h.r e,fun r hr => (h.rr r hr).ext e,owns_ext h.t e,h.ft,h.fs,h.fe,h.fr,h.len,h.cnt,h.pos,h.keep.trans (Keeps.of_ext e),⟨cs,(e.block b6 (zg h6)).trans h6,hcs⟩,h.h3,h.h6,h.ne,h.hB⟩
theorem BnSt.mk' {d' : ConfD} {m' q' : Nat} (h : BnSt B w0 W b3 b6 c d m q) (hd : d'.S = d.S /\ d'.E = d.E /\ d'.R = d.R) (hb : ∃ v1 v2 v3,BoxC W' b3 { d' with sv := v1,ev := v2,rv := v3 }) (s : W'.ownsRow w0.heap.size 51 7 d'.sv d'.S.length (d'.S.flatMap encV)) (k : ∀ s ∈ d'.S,W'.ownsRow B 9 1 s.kv s.K.length (s.K.flatMap encS)) (e : W'.ownsRow w0.heap.size 53 3 d'.ev d'.E.length (d'.E.flatMap encE)) (r : W'.ownsRow w0.heap.size 69 19 d'.rv d'.R.length (d'.R.flatMap encR)) (rr : ∀ r ∈ d'.R,RuleOwn B W' r) (t : W'.ownsRow B 55 3 d'.tv d'.T.length (d'.T.flatMap encT)) (ft : ftX c d' w0) (cnt : BnCnt c d' m' q') (keep : Keeps (tvX c) w0 W') (six : ∃ cs : Array Value,W'.heap[b6]? = some (.cells cs 30 (0,0)) /\ cs.size = 20) : BnSt B w0 W' b3 b6 c d' m' q' := by
 obtain ⟨h1,h2,h3⟩ := hd;refine ⟨hb,s,k,e,r,rr,t,ft, ?_, ?_, ?_,h.len,cnt, ?_,keep,six,h.h3,h.h6,h.ne,h.hB⟩
 ·rw [h1]; exact h.fs
 ·rw [h2]; exact h.fe
 ·rw [h3]; exact h.fr
 ·rw [h1,h2,h3]; exact h.pos
theorem BnCnt.same {d' : ConfD} (h : BnCnt c d m q) (h1 : d'.S.length = d.S.length) (h2 : d'.E.length = d.E.length) (h3 : d'.T.length = d.T.length) (h4 : d'.R.length = d.R.length) : BnCnt c d' m q := by
 unfold BnCnt at *;rw [h1,h2,h3,h4];exact h
theorem BnSt.rowS (h : BnSt B w0 W b3 b6 c d m q) {X : Nat -> Prop} (hks : Keeps X W W') (hof : OfT W X 51) (hge : ∀ q,X q -> w0.heap.size <= q) (v' : Value) (L' : List SvcD) (hs : W'.ownsRow w0.heap.size 51 7 v' L'.length (L'.flatMap encV)) (hk : ∀ s ∈ L',s ∈ d.S \/ W'.ownsRow B 9 1 s.kv s.K.length (s.K.flatMap encS)) (hf : ∀ s ∈ L',SvcFit s) (hp : 0 < L'.length) (m' q' : Nat) (hc : BnCnt c { d with sv := v',S := L' } m' q') :
  BnSt B w0 W' b3 b6 c { d with sv := v',S := L' } m' q' := by
 obtain ⟨v1,v2,v3,hb⟩ := h.box;obtain ⟨cs6,h6,hcs⟩ := h.six
 have hn3 : ¬ X b3 := fun e => by
  obtain ⟨cs,f,hg⟩ := hof b3 e;unfold BoxC at hb;rw [hg] at hb;cases hb
 have hn6 : ¬ X b6 := fun e => by
  obtain ⟨cs,f,hg⟩ := hof b6 e;rw [hg] at h6;cases h6
 have hb3 := hks.block b3 hb.lt hn3;have hb6 := hks.block b6 (zg h6) hn6;have hkeep : Keeps (tvX c) w0 W' := ⟨hks.os.trans h.keep.os,hks.tape.trans h.keep.tape,hks.output.trans h.keep.output,Nat.le_trans h.keep.size hks.size,fun i hi hx => (hks.block i (Nat.lt_of_lt_of_le hi h.keep.size) (fun hX => by have := hge i hX; omega)).trans (h.keep.block i hi hx)⟩;exact ⟨⟨v1,v2,v3,hb3.trans hb⟩,hs,fun s hs => (hk s hs).elim (fun h1 => owns_keepT (h.k s h1) hks hof (by decide)) id,owns_keepT h.e hks hof (by decide),owns_keepT h.r hks hof (by decide),fun r hr => ⟨owns_keepT (h.rr r hr).1 hks hof (by decide),owns_keepT (h.rr r hr).2.1 hks hof (by decide),owns_keepT (h.rr r hr).2.2.1 hks hof (by decide),owns_keepT (h.rr r hr).2.2.2 hks hof (by decide)⟩,owns_keepT h.t hks hof (by decide),h.ft,hf,h.fe,h.fr,h.len,hc,⟨hp,h.pos.2⟩,hkeep,⟨cs6,hb6.trans h6,hcs⟩,h.h3,h.h6,h.ne,h.hB⟩
theorem BnSt.setS (h : BnSt B w0 W b3 b6 c d m q) {g cap : Nat} (hv : d.sv = .slice (some ⟨g,0,none⟩) d.S.length cap) (i : Nat) (hi : i < d.S.length) (j : Nat) (hj : j < 7) (u : Value) (x' : SvcD) (he : encV x' = (encV d.S[i]).set j u) (hk : x'.kv = d.S[i].kv /\ x'.K = d.S[i].K \/ (W.setCell ⟨g,i * 7 + j,none⟩ u).ownsRow B 9 1 x'.kv x'.K.length (x'.K.flatMap encS)) (hf : SvcFit x') :
  BnSt B w0 (W.setCell ⟨g,i * 7 + j,none⟩ u) b3 b6 c { d with S := d.S.set i x' } m q := by
 have hks := Keeps.of_set (X := fun q => q = g) W g (i * 7 + j) u rfl;obtain ⟨csg,fz,hgc⟩ := ownsRow_kind h.s g (by rw [hv]; rfl);have hof : OfT W (fun q => q = g) 51 := OfT.one hgc;have hge := (h.s.lt g (by rw [hv]; rfl)).1;have hset : (W.setCell ⟨g,i * 7 + j,none⟩ u).ownsRow w0.heap.size 51 7 (.slice (some ⟨g,0,none⟩) d.S.length cap) d.S.length ((d.S.set i x').flatMap encV) := owns_set1 encV_len (by have := h.s; rw [hv] at this; exact this) i j hi hj u x' he;have hlen : (d.S.set i x').length = d.S.length := List.length_set;refine h.rowS hks hof (fun q hq => by rw [hq]; exact hge) d.sv (d.S.set i x') (by rw [hlen,hv]; exact hset) (fun s hs => ?_) (fun s hs => ?_) (by rw [hlen]; exact h.pos.1) m q (h.cnt.same hlen rfl rfl rfl)
 ·rcases List.mem_or_eq_of_mem_set hs with hs | rfl
  ·exact .inl hs
  ·refine .inr ?_;rcases hk with ⟨h1,h2⟩ | hk
   ·rw [h1,h2];exact owns_keepT (h.k _ (List.getElem_mem hi)) hks hof (by decide)
   ·exact hk
 ·rcases List.mem_or_eq_of_mem_set hs with hs | rfl
  ·exact h.fs s hs
  ·exact hf
theorem BnSt.rowE (h : BnSt B w0 W b3 b6 c d m q) {X : Nat -> Prop} (hks : Keeps X W W') (hof : OfT W X 53) (hge : ∀ q,X q -> w0.heap.size <= q) (v' : Value) (L' : List EndD) (hs : W'.ownsRow w0.heap.size 53 3 v' L'.length (L'.flatMap encE)) (hf : ∀ s ∈ L',EndFit s) (hp : 0 < L'.length) (m' q' : Nat) (hc : BnCnt c { d with ev := v',E := L' } m' q') :
  BnSt B w0 W' b3 b6 c { d with ev := v',E := L' } m' q' := by
 obtain ⟨v1,v2,v3,hb⟩ := h.box;obtain ⟨cs6,h6,hcs⟩ := h.six
 have hn3 : ¬ X b3 := fun e => by
  obtain ⟨cs,f,hg⟩ := hof b3 e;unfold BoxC at hb;rw [hg] at hb;cases hb
 have hn6 : ¬ X b6 := fun e => by
  obtain ⟨cs,f,hg⟩ := hof b6 e;rw [hg] at h6;cases h6
 have hb3 := hks.block b3 hb.lt hn3;have hb6 := hks.block b6 (zg h6) hn6;have hkeep : Keeps (tvX c) w0 W' := ⟨hks.os.trans h.keep.os,hks.tape.trans h.keep.tape,hks.output.trans h.keep.output,Nat.le_trans h.keep.size hks.size,fun i hi hx => (hks.block i (Nat.lt_of_lt_of_le hi h.keep.size) (fun hX => by have := hge i hX; omega)).trans (h.keep.block i hi hx)⟩;exact ⟨⟨v1,v2,v3,hb3.trans hb⟩,owns_keepT h.s hks hof (by decide),fun s hs => owns_keepT (h.k s hs) hks hof (by decide),hs,owns_keepT h.r hks hof (by decide),fun r hr => ⟨owns_keepT (h.rr r hr).1 hks hof (by decide),owns_keepT (h.rr r hr).2.1 hks hof (by decide),owns_keepT (h.rr r hr).2.2.1 hks hof (by decide),owns_keepT (h.rr r hr).2.2.2 hks hof (by decide)⟩,owns_keepT h.t hks hof (by decide),h.ft,h.fs,hf,h.fr,h.len,hc,⟨h.pos.1,hp,h.pos.2.2⟩,hkeep,⟨cs6,hb6.trans h6,hcs⟩,h.h3,h.h6,h.ne,h.hB⟩
theorem BnSt.setE (h : BnSt B w0 W b3 b6 c d m q) {g cap : Nat} (hv : d.ev = .slice (some ⟨g,0,none⟩) d.E.length cap) (i : Nat) (hi : i < d.E.length) (j : Nat) (hj : j < 3) (u : Value) (x' : EndD) (he : encE x' = (encE d.E[i]).set j u) (hf : EndFit x') :
  BnSt B w0 (W.setCell ⟨g,i * 3 + j,none⟩ u) b3 b6 c { d with E := d.E.set i x' } m q := by
 have hks := Keeps.of_set (X := fun q => q = g) W g (i * 3 + j) u rfl;obtain ⟨csg,fz,hgc⟩ := ownsRow_kind h.e g (by rw [hv]; rfl);have hof : OfT W (fun q => q = g) 53 := OfT.one hgc;have hge := (h.e.lt g (by rw [hv]; rfl)).1;have hset : (W.setCell ⟨g,i * 3 + j,none⟩ u).ownsRow w0.heap.size 53 3 (.slice (some ⟨g,0,none⟩) d.E.length cap) d.E.length ((d.E.set i x').flatMap encE) := owns_set1 encE_len (by have := h.e; rw [hv] at this; exact this) i j hi hj u x' he;have hlen : (d.E.set i x').length = d.E.length := List.length_set;refine h.rowE hks hof (fun q hq => by rw [hq]; exact hge) d.ev (d.E.set i x') (by rw [hlen,hv]; exact hset) (fun s hs => ?_) (by rw [hlen]; exact h.pos.2.1) m q (h.cnt.same rfl hlen rfl rfl)
 ·rcases List.mem_or_eq_of_mem_set hs with hs | rfl
  ·exact h.fe s hs
  ·exact hf
theorem BnSt.rowR (h : BnSt B w0 W b3 b6 c d m q) {X : Nat -> Prop} (hks : Keeps X W W') (hof : OfT W X 69) (hge : ∀ q,X q -> w0.heap.size <= q) (v' : Value) (L' : List RuleD) (hs : W'.ownsRow w0.heap.size 69 19 v' L'.length (L'.flatMap encR)) (hk : ∀ r ∈ L',r ∈ d.R \/ RuleOwn B W' r) (hf : ∀ s ∈ L',RuleFit s /\ I64 s.mi) (hp : 0 < L'.length) (m' q' : Nat) (hc : BnCnt c { d with rv := v',R := L' } m' q') :
  BnSt B w0 W' b3 b6 c { d with rv := v',R := L' } m' q' := by
 obtain ⟨v1,v2,v3,hb⟩ := h.box;obtain ⟨cs6,h6,hcs⟩ := h.six
 have hn3 : ¬ X b3 := fun e => by
  obtain ⟨cs,f,hg⟩ := hof b3 e;unfold BoxC at hb;rw [hg] at hb;cases hb
 have hn6 : ¬ X b6 := fun e => by
  obtain ⟨cs,f,hg⟩ := hof b6 e;rw [hg] at h6;cases h6
 have hb3 := hks.block b3 hb.lt hn3;have hb6 := hks.block b6 (zg h6) hn6;have hkeep : Keeps (tvX c) w0 W' := ⟨hks.os.trans h.keep.os,hks.tape.trans h.keep.tape,hks.output.trans h.keep.output,Nat.le_trans h.keep.size hks.size,fun i hi hx => (hks.block i (Nat.lt_of_lt_of_le hi h.keep.size) (fun hX => by have := hge i hX; omega)).trans (h.keep.block i hi hx)⟩;exact ⟨⟨v1,v2,v3,hb3.trans hb⟩,owns_keepT h.s hks hof (by decide),fun s hs => owns_keepT (h.k s hs) hks hof (by decide),owns_keepT h.e hks hof (by decide),hs,fun r hr => (hk r hr).elim (fun h1 => ⟨owns_keepT (h.rr r h1).1 hks hof (by decide),owns_keepT (h.rr r h1).2.1 hks hof (by decide),owns_keepT (h.rr r h1).2.2.1 hks hof (by decide),owns_keepT (h.rr r h1).2.2.2 hks hof (by decide)⟩) id,owns_keepT h.t hks hof (by decide),h.ft,h.fs,h.fe,hf,h.len,hc,⟨h.pos.1,h.pos.2.1,hp⟩,hkeep,⟨cs6,hb6.trans h6,hcs⟩,h.h3,h.h6,h.ne,h.hB⟩
theorem BnSt.setR (h : BnSt B w0 W b3 b6 c d m q) {g cap : Nat} (hv : d.rv = .slice (some ⟨g,0,none⟩) d.R.length cap) (i : Nat) (hi : i < d.R.length) (j : Nat) (hj : j < 19) (u : Value) (x' : RuleD) (he : encR x' = (encR d.R[i]).set j u) (hk : RuleOwn B W x') (hf : RuleFit x' /\ I64 x'.mi) :
  BnSt B w0 (W.setCell ⟨g,i * 19 + j,none⟩ u) b3 b6 c { d with R := d.R.set i x' } m q := by
 have hks := Keeps.of_set (X := fun q => q = g) W g (i * 19 + j) u rfl;obtain ⟨csg,fz,hgc⟩ := ownsRow_kind h.r g (by rw [hv]; rfl);have hof : OfT W (fun q => q = g) 69 := OfT.one hgc;have hge := (h.r.lt g (by rw [hv]; rfl)).1;have hset : (W.setCell ⟨g,i * 19 + j,none⟩ u).ownsRow w0.heap.size 69 19 (.slice (some ⟨g,0,none⟩) d.R.length cap) d.R.length ((d.R.set i x').flatMap encR) := owns_set1 encR_len (by have := h.r; rw [hv] at this; exact this) i j hi hj u x' he;have hlen : (d.R.set i x').length = d.R.length := List.length_set;refine h.rowR hks hof (fun q hq => by rw [hq]; exact hge) d.rv (d.R.set i x') (by rw [hlen,hv]; exact hset) (fun s hs => ?_) (fun s hs => ?_) (by rw [hlen]; exact h.pos.2.2) m q (h.cnt.same rfl rfl rfl hlen)
 ·rcases List.mem_or_eq_of_mem_set hs with hs | rfl
  ·exact .inl hs
  ·exact .inr ⟨owns_keepT hk.1 hks hof (by decide),owns_keepT hk.2.1 hks hof (by decide),owns_keepT hk.2.2.1 hks hof (by decide),owns_keepT hk.2.2.2 hks hof (by decide)⟩
 ·rcases List.mem_or_eq_of_mem_set hs with hs | rfl
  ·exact h.fr s hs
  ·exact hf
theorem BnSt.setN (h : BnSt B w0 W b3 b6 c d m q) (j : Nat) (u : Value) (d' : ConfD) (hd : d'.sv = d.sv /\ d'.S = d.S /\ d'.ev = d.ev /\ d'.E = d.E /\ d'.rv = d.rv /\ d'.R = d.R) (he : ∀ v1 v2 v3,encC { d' with sv := v1,ev := v2,rv := v3 } = (encC { d with sv := v1,ev := v2,rv := v3 }).set j u) (ht : W.ownsRow B 55 3 d'.tv d'.T.length (d'.T.flatMap encT)) (hft : ftX c d' w0) (m' q' : Nat) (hc : BnCnt c d' m' q') :
  BnSt B w0 (W.setCell ⟨b3,j,none⟩ u) b3 b6 c d' m' q' := by
 obtain ⟨v1,v2,v3,hb⟩ := h.box;obtain ⟨cs6,h6,hcs⟩ := h.six;obtain ⟨d1,d2,d3,d4,d5,d6⟩ := hd;have hks := Keeps.of_set (X := fun q => q = b3) W b3 j u rfl;have hof : OfT W (fun q => q = b3) 30 := OfT.one hb;refine h.mk' ⟨d2,d4,d6⟩ ⟨v1,v2,v3,hb.set j u (he v1 v2 v3)⟩ ?_ ?_ ?_ ?_ ?_ (owns_keepT ht hks hof (by decide)) hft hc (h.keep.setNew h.h3 _ _) ⟨cs6,(hks.block b6 (zg h6) h.ne).trans h6,hcs⟩
 ·rw [d1,d2]; exact owns_keepT h.s hks hof (by decide)
 ·rw [d2]; exact fun s hs => owns_keepT (h.k s hs) hks hof (by decide)
 ·rw [d3,d4]; exact owns_keepT h.e hks hof (by decide)
 ·rw [d5,d6]; exact owns_keepT h.r hks hof (by decide)
 ·rw [d6]; exact fun r hr => ⟨owns_keepT (h.rr r hr).1 hks hof (by decide),owns_keepT (h.rr r hr).2.1 hks hof (by decide),owns_keepT (h.rr r hr).2.2.1 hks hof (by decide),owns_keepT (h.rr r hr).2.2.2 hks hof (by decide)⟩
theorem BnSt.recnt {m' q' : Nat} (h : BnSt B w0 W b3 b6 c d m q) (hc : BnCnt c d m' q') : BnSt B w0 W b3 b6 c d m' q' := { h with cnt := hc }
theorem BnSt.appT {m' q' : Nat} (h : BnSt B w0 W b3 b6 c d m q) (hg : W.grownBy W' d.tv.ownBlock) (v8 : Value) (x : RateD) (ho : W'.ownsRow B 55 3 v8 (d.T.length + 1) (d.T.flatMap encT ++ encT x)) (hp : (v8.ownBlock = d.tv.ownBlock /\ ∀ a0 c0,d.tv = .slice a0 d.T.length c0 -> d.T.length + 1 <= c0) \/ ((∀ g,v8.ownBlock = some g -> w0.heap.size <= g) /\ Ext W W')) (hc : BnCnt c { d with tv := v8,T := d.T ++ [x] } m' q') :
  BnSt B w0 (W'.setCell ⟨b3,3,none⟩ v8) b3 b6 c { d with tv := v8,T := d.T ++ [x] } m' q' := by
 obtain ⟨v1,v2,v3,hb⟩ := h.box;obtain ⟨cs6,h6,hcs⟩ := h.six;have hk1 : Keeps (fun q => d.tv.ownBlock = some q) W W' := Keeps.of_grown hg (fun q h => h);have hof1 : OfT W (fun q => d.tv.ownBlock = some q) 55 := OfT.own h.t;have hn3 : ¬ d.tv.ownBlock = some b3 := fun e => absurd (owns_type h.t e hb) (by decide);have hn6 : ¬ d.tv.ownBlock = some b6 := fun e => absurd (owns_type h.t e h6) (by decide);have hb' : BoxC W' b3 { d with sv := v1,ev := v2,rv := v3 } := (hk1.block b3 hb.lt hn3).trans hb;have h6' := (hk1.block b6 (zg h6) hn6).trans h6;have hk2 := Keeps.of_set (X := fun q => q = b3) W' b3 3 v8 rfl;have hof2 : OfT W' (fun q => q = b3) 30 := OfT.one hb'
 have hno : ∀ g,(v8.ownBlock = d.tv.ownBlock /\ ∀ a0 c0,d.tv = .slice a0 d.T.length c0 -> d.T.length + 1 <= c0) -> (c.tv.ownBlock = some g /\ (¬ TvF c \/ (d.tv = c.tv /\ d.T = c.T))) -> ¬ TvF c := fun g hp h2 => by
  rcases h2.2 with h3 | ⟨e1,e2⟩
  ·exact h3
  ·rintro ⟨a0,ha⟩;have := hp.2 a0 c.T.length (by rw [e1,e2]; exact ha);rw [e2] at this;omega
 have hin : ∀ i,i < w0.heap.size -> ¬ tvX c i -> W'.heap[i]? = W.heap[i]? := fun i hi hx => by
  rcases hp with hp | ⟨-,he⟩
  ·exact hk1.block i (Nat.lt_of_lt_of_le hi h.keep.size) (fun e => (h.ft i e).elim (fun h2 => hx ⟨h2.1,hno i hp h2⟩) (fun h2 => by omega))
  ·exact he.block i (Nat.lt_of_lt_of_le hi h.keep.size)
 have hkeep : Keeps (tvX c) w0 W' := ⟨hk1.os.trans h.keep.os,hk1.tape.trans h.keep.tape,hk1.output.trans h.keep.output,Nat.le_trans h.keep.size hk1.size,fun i hi hx => (hin i hi hx).trans (h.keep.block i hi hx)⟩;refine h.mk' ⟨rfl,rfl,rfl⟩ ⟨v1,v2,v3,hb'.set (c' := { d with sv := v1,ev := v2,rv := v3,tv := v8,T := d.T ++ [x] }) 3 v8 rfl⟩ (owns_keepT (owns_keepT h.s hk1 hof1 (by decide)) hk2 hof2 (by decide)) (fun s hs => owns_keepT (owns_keepT (h.k s hs) hk1 hof1 (by decide)) hk2 hof2 (by decide)) (owns_keepT (owns_keepT h.e hk1 hof1 (by decide)) hk2 hof2 (by decide)) (owns_keepT (owns_keepT h.r hk1 hof1 (by decide)) hk2 hof2 (by decide)) (fun r hr => ⟨owns_keepT (owns_keepT (h.rr r hr).1 hk1 hof1 (by decide)) hk2 hof2 (by decide),owns_keepT (owns_keepT (h.rr r hr).2.1 hk1 hof1 (by decide)) hk2 hof2 (by decide),owns_keepT (owns_keepT (h.rr r hr).2.2.1 hk1 hof1 (by decide)) hk2 hof2 (by decide),owns_keepT (owns_keepT (h.rr r hr).2.2.2 hk1 hof1 (by decide)) hk2 hof2 (by decide)⟩) ?_ (fun g hg => ?_) hc (hkeep.setNew h.h3 _ _) ⟨cs6,(hk2.block b6 (zg h6') h.ne).trans h6',hcs⟩
 ·have := owns_keepT ho hk2 hof2 (by decide);simpa [List.flatMap_append] using this
 ·rcases hp with hp | hp
  ·exact (h.ft g (by rw [<- hp.1]; exact hg)).elim (fun h2 => .inl ⟨h2.1,.inl (hno g hp h2)⟩) .inr
  ·exact .inr (hp.1 g hg)
theorem BnSt.boxAt (h : BnSt B w0 W b3 b6 c d m q) : W.there b3 0 20 := fun q hq => by
 obtain ⟨v1,v2,v3,hb⟩ := h.box;rw [Nat.zero_add];have hl : (encC { d with sv := v1,ev := v2,rv := v3 })[q]? = some ((encC { d with sv := v1,ev := v2,rv := v3 })[q]'(by rw [encC_len]; exact hq)) := List.getElem?_eq_getElem _;exact ⟨by rw [hb.cell q _ hl]; simp,hb.frozen q⟩
end
theorem bent_end (B : Nat) (w0 W : World) (b3 b6 : Nat) (c d : ConfD) (m : Nat) (x : Nat -> Value) (e3 : x 3 = .pointer (some ⟨b3,0,none⟩)) (e6 : x 6 = .pointer (some ⟨b6,0,none⟩)) (e9 : x 9 = d.sv) (e10 : x 10 = d.ev) (e11 : x 11 = d.rv) (h : BnSt B w0 W b3 b6 c d m (m * m)) :
  Code.wp Tryz.prog (bentTail 10) (bodyPost Tryz.prog Tryz.f6 (BentP B c w0)) ⟨frameOf 288 x,[]⟩ W := by
 conv => arg 2; whnf
 rw [frame288];simp only [e3,e6,e9,e10,e11];clear e3 e6 e9 e10 e11;obtain ⟨cd,hcd1,hcd2⟩ := Tryz.confDesc;obtain ⟨sa,sc,hs⟩ := owns_shape h.s;obtain ⟨ea,ec,he⟩ := owns_shape h.e;obtain ⟨ra,rc,hr⟩ := owns_shape h.r;obtain ⟨v1,v2,v3,hb⟩ := h.box;have hth := h.boxAt;have d0 := hb.cell 0 _ rfl;have d1 := hb.cell 1 _ rfl;have d2 := hb.cell 2 _ rfl;have z0 := hb.frozen 0;have z1 := hb.frozen 1;have z2 := hb.frozen 2
 have hb1 : BoxC (((W.setCell ⟨b3,0,none⟩ (.slice sa d.S.length sc)).setCell ⟨b3,1,none⟩ (.slice ea d.E.length ec)).setCell ⟨b3,2,none⟩ (.slice ra d.R.length rc)) b3 d :=
  ((hb.set (c' := { d with ev := v2,rv := v3 }) 0 (.slice sa d.S.length sc) (by rw [<- hs]; rfl)).set (c' := { d with rv := v3 }) 1 (.slice ea d.E.length ec) (by rw [<- he]; rfl)).set (c' := d) 2 (.slice ra d.R.length rc) (by rw [<- hr]; rfl)
 have hks := ((Keeps.of_set (X := fun q => q = b3) W b3 0 (.slice sa d.S.length sc) rfl).trans (Keeps.of_set (X := fun q => q = b3) _ b3 1 (.slice ea d.E.length ec) rfl)).trans (Keeps.of_set (X := fun q => q = b3) _ b3 2 (.slice ra d.R.length rc) rfl);have how := h.own.keepT hks (OfT.one hb) (by decide) (by decide) (by decide) (by decide) (by decide) (by decide) (by decide);obtain ⟨cs,h6,hcz⟩ := h.six;have h6' := (hks.block b6 (zg h6) h.ne).trans h6;have hkp : Keeps (tvX c) w0 (((W.setCell ⟨b3,0,none⟩ (.slice sa d.S.length sc)).setCell ⟨b3,1,none⟩ (.slice ea d.E.length ec)).setCell ⟨b3,2,none⟩ (.slice ra d.R.length rc)) := ((h.keep.setNew h.h3 _ _).setNew h.h3 _ _).setNew h.h3 _ _;rw [hs,he,hr];have HOW := hide how;have HKP := hide hkp;have HH := hide h;have HB1 := hide hb1;have H6 := hide h6';clear hb1 hks how h6 h6' hkp h hb hth hs he hr
 go_upto_region 86 with (fail)
 generalize ((W.setCell ⟨b3,0,none⟩ (.slice sa d.S.length sc)).setCell ⟨b3,1,none⟩ (.slice ea d.E.length ec)).setCell ⟨b3,2,none⟩ (.slice ra d.R.length rc) = W9 at HOW HKP HB1 H6 ⊢;clear d0 d1 d2 z0 z1 z2;have h6 := H6.out;refine wp_region_lit ?_;refine wpList_load_mid rfl 30 (.tmp 3) rfl b3 0 rfl (encC d) cd HB1.out.range hcd1 hcd2 Tryz.confSize ?_
 have hth : W9.there b6 0 (encC d).toArray.size := fun j hj => by
  have hj' : j < 20 := hj;rw [Nat.zero_add];refine ⟨?_,by simp [World.frozen?,h6]⟩;simp only [World.cell?,h6];simp [hj',hcz]
 refine wpList_store_mid rfl 30 (.tmp 6) (.tmp 287) rfl b6 0 (encC d).toArray rfl rfl hth Tryz.confSize (all_oneCell_toArray (encC_one HOW.out)) ?_;refine wpList_nil ?_;have hrs := World.rangeAt_setCells_same W9 b6 0 (encC d) hth;have hk5 := keeps_setCells b6 (encC d) 0 W9;show Exit.then _ _ _ _ (W9.setCells b6 0 (encC d));generalize W9.setCells b6 0 (encC d) = W10 at hrs hk5 ⊢;have HEF := hide (show Keeps (tvX c) w0 W10 from ⟨hk5.os.trans HKP.out.os,hk5.tape.trans HKP.out.tape,hk5.output.trans HKP.out.output,Nat.le_trans HKP.out.size hk5.size,fun i hi hx => (hk5.block i (Nat.lt_of_lt_of_le hi HKP.out.size) (by have := HH.out.h6; omega)).trans (HKP.out.block i hi hx)⟩);have HOF := hide (HOW.out.keepT hk5 (OfT.one h6) (by decide) (by decide) (by decide) (by decide) (by decide) (by decide) (by decide));have HRG := hide hrs;clear hrs hk5 hth h6 hcz H6;simp only [Act.put]
 go_wp2_with (fail)
 (try simp only [Exit.inBlock,Exit.then])
 refine bodyPost_ret (results_cell_mid rfl _ _ b6 0 (encC d) cd rfl HRG.out hcd1 hcd2 Tryz.confSize) rfl ?_;exact ⟨d,m,rfl,HOF.out,HH.out.conf,HH.out.cnt,HH.out.pos.1,HH.out.pos.2.1,HH.out.pos.2.2,HH.out.ft,HEF.out⟩
theorem bent_arm0 (B : Nat) (w0 W : World) (b3 b6 : Nat) (c d : ConfD) (n : Int) (i j q : Nat) (x : Nat -> Value) (e2 : x 2 = .int .i64 n) (e3 : x 3 = .pointer (some ⟨b3,0,none⟩)) (e6 : x 6 = .pointer (some ⟨b6,0,none⟩)) (e7 : x 7 = .int .i64 0) (e9 : x 9 = d.sv) (e10 : x 10 = d.ev) (e11 : x 11 = d.rv) (e12 : x 12 = .int .i64 i) (e13 : x 13 = .int .i64 j) (e14 : x 14 = .int .i64 q) (hi : i < d.S.length) (hj : j < d.E.length) (hq : q < d.R.length) (hn : I64 n) (h : BnSt B w0 W b3 b6 c d 0 0) (hc : c.E.length = d.E.length /\ c.T.length = d.T.length /\ c.S.length = d.S.length) :
  Code.wp Tryz.prog (bentTail 9) (bodyPost Tryz.prog Tryz.f6 (BentP B c w0)) ⟨frameOf 288 x,[]⟩ W := by
 conv => arg 2; whnf
 rw [frame288];obtain ⟨gs,sc,hs,hsm⟩ := owns_form h.s h.pos.1;obtain ⟨ge,ec,he,hem⟩ := owns_form h.e h.pos.2.1;obtain ⟨gr,rc,hr,hrm⟩ := owns_form h.r h.pos.2.2;simp only [e2,e3,e6,e7,e9,e10,e11,e12,e13,e14,hs,he,hr];clear e2 e3 e6 e7 e9 e10 e11 e12 e13 e14;have hiz0 : (0 : Int) <= i := by omega
 have hiz : (i : Int) < d.S.length := by omega
 have hjz0 : (0 : Int) <= j := by omega
 have hjz : (j : Int) < d.E.length := by omega
 have hqz0 : (0 : Int) <= q := by omega
 have hqz : (q : Int) < d.R.length := by omega
 have HN := hide hn;have HC := hide hc;clear hn hc
 go_upto_block 0 with fail
 go_cut [9,10,15,16,17,18] from 49 to 280 (fun v9 v10 _ _ _ _ w' => ∃ d' m' q',v9 = d'.sv /\ v10 = d'.ev /\ .slice (some ⟨gr,0,none⟩) d.R.length rc = d'.rv /\ q' = m' * m' /\ BnSt B w0 w' b3 b6 c d' m' q')
 case first =>
   have hrow := h.s;rw [hs] at hrow;obtain ⟨d1,z1⟩ := cell_row encV_len hrow i hi 0 _ rfl;simp only [Nat.add_zero] at d1 z1;have hnew := h.setS (g := gs) (cap := sc) hs i hi 0 (by decide) (.int .i64 n) ({ d.S[i] with id := n } : SvcD) rfl (.inl ⟨rfl,rfl⟩) (by have := h.fs _ (List.getElem_mem hi); unfold SvcFit at this ⊢; exact ⟨HN.out,this.2.1,this.2.2.1,this.2.2.2.1,this.2.2.2.2.1,this.2.2.2.2.2.1,this.2.2.2.2.2.2⟩);simp only [Nat.add_zero] at hnew;have HNEW := hide hnew;have HV := hide (show d.sv = _ /\ d.ev = _ /\ d.rv = _ from ⟨hs,he,hr⟩);clear hnew hrow h hs he hr;go_wp2
   go_meet
   case rel =>
    refine ⟨_,0,0, ?_, ?_, ?_,rfl,HNEW.out⟩
    ·exact HV.out.1.symm
    ·exact HV.out.2.1.symm
    ·exact HV.out.2.2.symm
 case rest =>
  obtain ⟨d',m',q',rfl,rfl,h11,rfl,hst⟩ := hcut
  (try simp only [Exit.inBlock,Exit.then])
  apply_assumption
  exact of_frame288 _ rfl (bent_end B w0 _ b3 b6 c d' m' _ rfl rfl rfl rfl h11 hst)
theorem bent_arm1 (B : Nat) (w0 W : World) (b3 b6 : Nat) (c d : ConfD) (n : Int) (i j q : Nat) (x : Nat -> Value) (e2 : x 2 = .int .i64 n) (e3 : x 3 = .pointer (some ⟨b3,0,none⟩)) (e6 : x 6 = .pointer (some ⟨b6,0,none⟩)) (e7 : x 7 = .int .i64 1) (e9 : x 9 = d.sv) (e10 : x 10 = d.ev) (e11 : x 11 = d.rv) (e12 : x 12 = .int .i64 i) (e13 : x 13 = .int .i64 j) (e14 : x 14 = .int .i64 q) (hi : i < d.S.length) (hj : j < d.E.length) (hq : q < d.R.length) (hn : I64 n) (h : BnSt B w0 W b3 b6 c d 0 0) (hc : c.E.length = d.E.length /\ c.T.length = d.T.length /\ c.S.length = d.S.length) :
  Code.wp Tryz.prog (bentTail 9) (bodyPost Tryz.prog Tryz.f6 (BentP B c w0)) ⟨frameOf 288 x,[]⟩ W := by
 conv => arg 2; whnf
 rw [frame288];obtain ⟨gs,sc,hs,hsm⟩ := owns_form h.s h.pos.1;obtain ⟨ge,ec,he,hem⟩ := owns_form h.e h.pos.2.1;obtain ⟨gr,rc,hr,hrm⟩ := owns_form h.r h.pos.2.2;simp only [e2,e3,e6,e7,e9,e10,e11,e12,e13,e14,hs,he,hr];clear e2 e3 e6 e7 e9 e10 e11 e12 e13 e14;have hiz0 : (0 : Int) <= i := by omega
 have hiz : (i : Int) < d.S.length := by omega
 have hjz0 : (0 : Int) <= j := by omega
 have hjz : (j : Int) < d.E.length := by omega
 have hqz0 : (0 : Int) <= q := by omega
 have hqz : (q : Int) < d.R.length := by omega
 have HN := hide hn;have HC := hide hc;clear hn hc
 go_upto_block 0 with fail
 go_cut [9,10,15,16,17,18] from 49 to 280 (fun v9 v10 _ _ _ _ w' => ∃ d' m' q',v9 = d'.sv /\ v10 = d'.ev /\ .slice (some ⟨gr,0,none⟩) d.R.length rc = d'.rv /\ q' = m' * m' /\ BnSt B w0 w' b3 b6 c d' m' q')
 case first =>
   have hrow := h.s;rw [hs] at hrow;obtain ⟨d1,z1⟩ := cell_row encV_len hrow i hi 2 _ rfl;have hnew := h.setS (g := gs) (cap := sc) hs i hi 2 (by decide) (.int .i64 n) ({ d.S[i] with work := n } : SvcD) rfl (.inl ⟨rfl,rfl⟩) (by have := h.fs _ (List.getElem_mem hi); unfold SvcFit at this ⊢; exact ⟨this.1,HN.out,this.2.2.1,this.2.2.2.1,this.2.2.2.2.1,this.2.2.2.2.2.1,this.2.2.2.2.2.2⟩);have HNEW := hide hnew;have HV := hide (show d.sv = _ /\ d.ev = _ /\ d.rv = _ from ⟨hs,he,hr⟩);clear hnew hrow h hs he hr;go_wp2
   go_meet
   case rel =>
    refine ⟨_,0,0, ?_, ?_, ?_,rfl,HNEW.out⟩
    ·exact HV.out.1.symm
    ·exact HV.out.2.1.symm
    ·exact HV.out.2.2.symm
 case rest =>
  obtain ⟨d',m',q',rfl,rfl,h11,rfl,hst⟩ := hcut
  (try simp only [Exit.inBlock,Exit.then])
  apply_assumption
  exact of_frame288 _ rfl (bent_end B w0 _ b3 b6 c d' m' _ rfl rfl rfl rfl h11 hst)
theorem bent_arm2 (B : Nat) (w0 W : World) (b3 b6 : Nat) (c d : ConfD) (n : Int) (i j q : Nat) (x : Nat -> Value) (e2 : x 2 = .int .i64 n) (e3 : x 3 = .pointer (some ⟨b3,0,none⟩)) (e6 : x 6 = .pointer (some ⟨b6,0,none⟩)) (e7 : x 7 = .int .i64 2) (e9 : x 9 = d.sv) (e10 : x 10 = d.ev) (e11 : x 11 = d.rv) (e12 : x 12 = .int .i64 i) (e13 : x 13 = .int .i64 j) (e14 : x 14 = .int .i64 q) (hi : i < d.S.length) (hj : j < d.E.length) (hq : q < d.R.length) (hn : I64 n) (h : BnSt B w0 W b3 b6 c d 0 0) (hc : c.E.length = d.E.length /\ c.T.length = d.T.length /\ c.S.length = d.S.length) :
  Code.wp Tryz.prog (bentTail 9) (bodyPost Tryz.prog Tryz.f6 (BentP B c w0)) ⟨frameOf 288 x,[]⟩ W := by
 conv => arg 2; whnf
 rw [frame288];obtain ⟨gs,sc,hs,hsm⟩ := owns_form h.s h.pos.1;obtain ⟨ge,ec,he,hem⟩ := owns_form h.e h.pos.2.1;obtain ⟨gr,rc,hr,hrm⟩ := owns_form h.r h.pos.2.2;simp only [e2,e3,e6,e7,e9,e10,e11,e12,e13,e14,hs,he,hr];clear e2 e3 e6 e7 e9 e10 e11 e12 e13 e14;have hiz0 : (0 : Int) <= i := by omega
 have hiz : (i : Int) < d.S.length := by omega
 have hjz0 : (0 : Int) <= j := by omega
 have hjz : (j : Int) < d.E.length := by omega
 have hqz0 : (0 : Int) <= q := by omega
 have hqz : (q : Int) < d.R.length := by omega
 have HN := hide hn;have HC := hide hc;clear hn hc
 go_upto_block 0 with fail
 go_cut [9,10,15,16,17,18] from 49 to 280 (fun v9 v10 _ _ _ _ w' => ∃ d' m' q',v9 = d'.sv /\ v10 = d'.ev /\ .slice (some ⟨gr,0,none⟩) d.R.length rc = d'.rv /\ q' = m' * m' /\ BnSt B w0 w' b3 b6 c d' m' q')
 case first =>
   have hrow := h.s;rw [hs] at hrow;obtain ⟨d1,z1⟩ := cell_row encV_len hrow i hi 3 _ rfl;have hnew := h.setS (g := gs) (cap := sc) hs i hi 3 (by decide) (.int .i64 n) ({ d.S[i] with slots := n } : SvcD) rfl (.inl ⟨rfl,rfl⟩) (by have := h.fs _ (List.getElem_mem hi); unfold SvcFit at this ⊢; exact ⟨this.1,this.2.1,HN.out,this.2.2.2.1,this.2.2.2.2.1,this.2.2.2.2.2.1,this.2.2.2.2.2.2⟩);have HNEW := hide hnew;have HV := hide (show d.sv = _ /\ d.ev = _ /\ d.rv = _ from ⟨hs,he,hr⟩);clear hnew hrow h hs he hr;go_wp2
   go_meet
   case rel =>
    refine ⟨_,0,0, ?_, ?_, ?_,rfl,HNEW.out⟩
    ·exact HV.out.1.symm
    ·exact HV.out.2.1.symm
    ·exact HV.out.2.2.symm
 case rest =>
  obtain ⟨d',m',q',rfl,rfl,h11,rfl,hst⟩ := hcut
  (try simp only [Exit.inBlock,Exit.then])
  apply_assumption
  exact of_frame288 _ rfl (bent_end B w0 _ b3 b6 c d' m' _ rfl rfl rfl rfl h11 hst)
theorem bent_arm3 (B : Nat) (w0 W : World) (b3 b6 : Nat) (c d : ConfD) (n : Int) (i j q : Nat) (x : Nat -> Value) (e2 : x 2 = .int .i64 n) (e3 : x 3 = .pointer (some ⟨b3,0,none⟩)) (e6 : x 6 = .pointer (some ⟨b6,0,none⟩)) (e7 : x 7 = .int .i64 3) (e9 : x 9 = d.sv) (e10 : x 10 = d.ev) (e11 : x 11 = d.rv) (e12 : x 12 = .int .i64 i) (e13 : x 13 = .int .i64 j) (e14 : x 14 = .int .i64 q) (hi : i < d.S.length) (hj : j < d.E.length) (hq : q < d.R.length) (hn : I64 n) (h : BnSt B w0 W b3 b6 c d 0 0) (hc : c.E.length = d.E.length /\ c.T.length = d.T.length /\ c.S.length = d.S.length) :
  Code.wp Tryz.prog (bentTail 9) (bodyPost Tryz.prog Tryz.f6 (BentP B c w0)) ⟨frameOf 288 x,[]⟩ W := by
 conv => arg 2; whnf
 rw [frame288];obtain ⟨gs,sc,hs,hsm⟩ := owns_form h.s h.pos.1;obtain ⟨ge,ec,he,hem⟩ := owns_form h.e h.pos.2.1;obtain ⟨gr,rc,hr,hrm⟩ := owns_form h.r h.pos.2.2;simp only [e2,e3,e6,e7,e9,e10,e11,e12,e13,e14,hs,he,hr];clear e2 e3 e6 e7 e9 e10 e11 e12 e13 e14;have hiz0 : (0 : Int) <= i := by omega
 have hiz : (i : Int) < d.S.length := by omega
 have hjz0 : (0 : Int) <= j := by omega
 have hjz : (j : Int) < d.E.length := by omega
 have hqz0 : (0 : Int) <= q := by omega
 have hqz : (q : Int) < d.R.length := by omega
 have HN := hide hn;have HC := hide hc;clear hn hc
 go_upto_block 0 with fail
 go_cut [9,10,15,16,17,18] from 49 to 280 (fun v9 v10 _ _ _ _ w' => ∃ d' m' q',v9 = d'.sv /\ v10 = d'.ev /\ .slice (some ⟨gr,0,none⟩) d.R.length rc = d'.rv /\ q' = m' * m' /\ BnSt B w0 w' b3 b6 c d' m' q')
 case first =>
   have hrow := h.s;rw [hs] at hrow;obtain ⟨d1,z1⟩ := cell_row encV_len hrow i hi 4 _ rfl;have hnew := h.setS (g := gs) (cap := sc) hs i hi 4 (by decide) (.int .i64 n) ({ d.S[i] with queue := n } : SvcD) rfl (.inl ⟨rfl,rfl⟩) (by have := h.fs _ (List.getElem_mem hi); unfold SvcFit at this ⊢; exact ⟨this.1,this.2.1,this.2.2.1,HN.out,this.2.2.2.2.1,this.2.2.2.2.2.1,this.2.2.2.2.2.2⟩);have HNEW := hide hnew;have HV := hide (show d.sv = _ /\ d.ev = _ /\ d.rv = _ from ⟨hs,he,hr⟩);clear hnew hrow h hs he hr;go_wp2
   go_meet
   case rel =>
    refine ⟨_,0,0, ?_, ?_, ?_,rfl,HNEW.out⟩
    ·exact HV.out.1.symm
    ·exact HV.out.2.1.symm
    ·exact HV.out.2.2.symm
 case rest =>
  obtain ⟨d',m',q',rfl,rfl,h11,rfl,hst⟩ := hcut
  (try simp only [Exit.inBlock,Exit.then])
  apply_assumption
  exact of_frame288 _ rfl (bent_end B w0 _ b3 b6 c d' m' _ rfl rfl rfl rfl h11 hst)
theorem bent_arm4 (B : Nat) (w0 W : World) (b3 b6 : Nat) (c d : ConfD) (n : Int) (i j q : Nat) (x : Nat -> Value) (e2 : x 2 = .int .i64 n) (e3 : x 3 = .pointer (some ⟨b3,0,none⟩)) (e6 : x 6 = .pointer (some ⟨b6,0,none⟩)) (e7 : x 7 = .int .i64 4) (e9 : x 9 = d.sv) (e10 : x 10 = d.ev) (e11 : x 11 = d.rv) (e12 : x 12 = .int .i64 i) (e13 : x 13 = .int .i64 j) (e14 : x 14 = .int .i64 q) (hi : i < d.S.length) (hj : j < d.E.length) (hq : q < d.R.length) (hn : I64 n) (h : BnSt B w0 W b3 b6 c d 0 0) (hc : c.E.length = d.E.length /\ c.T.length = d.T.length /\ c.S.length = d.S.length) :
  Code.wp Tryz.prog (bentTail 9) (bodyPost Tryz.prog Tryz.f6 (BentP B c w0)) ⟨frameOf 288 x,[]⟩ W := by
 conv => arg 2; whnf
 rw [frame288];obtain ⟨gs,sc,hs,hsm⟩ := owns_form h.s h.pos.1;obtain ⟨ge,ec,he,hem⟩ := owns_form h.e h.pos.2.1;obtain ⟨gr,rc,hr,hrm⟩ := owns_form h.r h.pos.2.2;simp only [e2,e3,e6,e7,e9,e10,e11,e12,e13,e14,hs,he,hr];clear e2 e3 e6 e7 e9 e10 e11 e12 e13 e14;have hiz0 : (0 : Int) <= i := by omega
 have hiz : (i : Int) < d.S.length := by omega
 have hjz0 : (0 : Int) <= j := by omega
 have hjz : (j : Int) < d.E.length := by omega
 have hqz0 : (0 : Int) <= q := by omega
 have hqz : (q : Int) < d.R.length := by omega
 have HN := hide hn;have HC := hide hc;clear hn hc
 go_upto_block 0 with fail
 go_cut [9,10,15,16,17,18] from 49 to 280 (fun v9 v10 _ _ _ _ w' => ∃ d' m' q',v9 = d'.sv /\ v10 = d'.ev /\ .slice (some ⟨gr,0,none⟩) d.R.length rc = d'.rv /\ q' = m' * m' /\ BnSt B w0 w' b3 b6 c d' m' q')
 case first =>
   have hrow := h.s;rw [hs] at hrow;obtain ⟨d1,z1⟩ := cell_row encV_len hrow i hi 5 _ rfl;have hnew := h.setS (g := gs) (cap := sc) hs i hi 5 (by decide) (.int .i64 n) ({ d.S[i] with bal := n } : SvcD) rfl (.inl ⟨rfl,rfl⟩) (by have := h.fs _ (List.getElem_mem hi); unfold SvcFit at this ⊢; exact ⟨this.1,this.2.1,this.2.2.1,this.2.2.2.1,HN.out,this.2.2.2.2.2.1,this.2.2.2.2.2.2⟩);have HNEW := hide hnew;have HV := hide (show d.sv = _ /\ d.ev = _ /\ d.rv = _ from ⟨hs,he,hr⟩);clear hnew hrow h hs he hr;go_wp2
   go_meet
   case rel =>
    refine ⟨_,0,0, ?_, ?_, ?_,rfl,HNEW.out⟩
    ·exact HV.out.1.symm
    ·exact HV.out.2.1.symm
    ·exact HV.out.2.2.symm
 case rest =>
  obtain ⟨d',m',q',rfl,rfl,h11,rfl,hst⟩ := hcut
  (try simp only [Exit.inBlock,Exit.then])
  apply_assumption
  exact of_frame288 _ rfl (bent_end B w0 _ b3 b6 c d' m' _ rfl rfl rfl rfl h11 hst)
theorem bent_arm5 (B : Nat) (w0 W : World) (b3 b6 : Nat) (c d : ConfD) (n : Int) (i j q : Nat) (x : Nat -> Value) (e2 : x 2 = .int .i64 n) (e3 : x 3 = .pointer (some ⟨b3,0,none⟩)) (e6 : x 6 = .pointer (some ⟨b6,0,none⟩)) (e7 : x 7 = .int .i64 5) (e9 : x 9 = d.sv) (e10 : x 10 = d.ev) (e11 : x 11 = d.rv) (e12 : x 12 = .int .i64 i) (e13 : x 13 = .int .i64 j) (e14 : x 14 = .int .i64 q) (hi : i < d.S.length) (hj : j < d.E.length) (hq : q < d.R.length) (hn : I64 n) (h : BnSt B w0 W b3 b6 c d 0 0) (hc : c.E.length = d.E.length /\ c.T.length = d.T.length /\ c.S.length = d.S.length) :
  Code.wp Tryz.prog (bentTail 9) (bodyPost Tryz.prog Tryz.f6 (BentP B c w0)) ⟨frameOf 288 x,[]⟩ W := by
 conv => arg 2; whnf
 rw [frame288];obtain ⟨gs,sc,hs,hsm⟩ := owns_form h.s h.pos.1;obtain ⟨ge,ec,he,hem⟩ := owns_form h.e h.pos.2.1;obtain ⟨gr,rc,hr,hrm⟩ := owns_form h.r h.pos.2.2;simp only [e2,e3,e6,e7,e9,e10,e11,e12,e13,e14,hs,he,hr];clear e2 e3 e6 e7 e9 e10 e11 e12 e13 e14;have hiz0 : (0 : Int) <= i := by omega
 have hiz : (i : Int) < d.S.length := by omega
 have hjz0 : (0 : Int) <= j := by omega
 have hjz : (j : Int) < d.E.length := by omega
 have hqz0 : (0 : Int) <= q := by omega
 have hqz : (q : Int) < d.R.length := by omega
 have HN := hide hn;have HC := hide hc;clear hn hc
 go_upto_block 0 with fail
 go_cut [9,10,15,16,17,18] from 49 to 280 (fun v9 v10 _ _ _ _ w' => ∃ d' m' q',v9 = d'.sv /\ v10 = d'.ev /\ .slice (some ⟨gr,0,none⟩) d.R.length rc = d'.rv /\ q' = m' * m' /\ BnSt B w0 w' b3 b6 c d' m' q')
 case first =>
   have hrow := h.s;rw [hs] at hrow;obtain ⟨d1,z1⟩ := cell_row encV_len hrow i hi 6 _ rfl;have hnew := h.setS (g := gs) (cap := sc) hs i hi 6 (by decide) (.int .i64 n) ({ d.S[i] with warm := n } : SvcD) rfl (.inl ⟨rfl,rfl⟩) (by have := h.fs _ (List.getElem_mem hi); unfold SvcFit at this ⊢; exact ⟨this.1,this.2.1,this.2.2.1,this.2.2.2.1,this.2.2.2.2.1,HN.out,this.2.2.2.2.2.2⟩);have HNEW := hide hnew;have HV := hide (show d.sv = _ /\ d.ev = _ /\ d.rv = _ from ⟨hs,he,hr⟩);clear hnew hrow h hs he hr;go_wp2
   go_meet
   case rel =>
    refine ⟨_,0,0, ?_, ?_, ?_,rfl,HNEW.out⟩
    ·exact HV.out.1.symm
    ·exact HV.out.2.1.symm
    ·exact HV.out.2.2.symm
 case rest =>
  obtain ⟨d',m',q',rfl,rfl,h11,rfl,hst⟩ := hcut
  (try simp only [Exit.inBlock,Exit.then])
  apply_assumption
  exact of_frame288 _ rfl (bent_end B w0 _ b3 b6 c d' m' _ rfl rfl rfl rfl h11 hst)
end Go.Proofs.YtoaiakhnnfbkdaaGreatDoor
