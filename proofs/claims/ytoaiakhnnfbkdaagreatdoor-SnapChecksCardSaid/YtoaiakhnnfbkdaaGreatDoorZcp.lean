/- Lemmas. -/
import Derived.Shelf.SlicesE.Clone
import Derived.Ground.SlgnProg
import Derived.Test.YtoaiakhnnfbkdaaGreatDoorZcb
import Derived.Test.YtoaiakhnnfbkdaaGreatDoorRtJ
import Derived.Deep.CutBlock
import Derived.Deep.RegionHeld3
import Derived.Test.YtoaiakhnnfbkdaaGreatDoorZrw
set_option maxRecDepth 100000
set_option maxHeartbeats 32000000
namespace Go.Proofs
open Go.Shelf
def Tryz.lClV_ren : Go.Shelf.Ren := ⟨fun | 41 => 47 | n => n, fun | 22 => 23 | 23 => 51 | 4 => 4 | n => n, fun | n => n⟩
theorem Tryz.lClV : Go.Proofs.SlLaysE0.n41 Tryz.prog Tryz.lClV_ren := {
  mixed := by kernel_rfl
  f41 := ⟨Tryz.f47.name, by decide, Tryz.func47.trans (congrArg some (by kernel_rfl))⟩
  t4 := Tryz.underlying4
  a4 := Tryz.isAgg4
  z4 := Tryz.sizeOf4
  v4 := Tryz.zeroValue4
  t22 := Tryz.underlying23
  a22 := Tryz.isAgg23
  z22 := Tryz.sizeOf23
  v22 := Tryz.zeroValue23 }
def Tryz.lClE_ren : Go.Shelf.Ren := ⟨fun | 41 => 49 | n => n, fun | 22 => 24 | 23 => 53 | 4 => 4 | n => n, fun | n => n⟩
theorem Tryz.lClE : Go.Proofs.SlLaysE0.n41 Tryz.prog Tryz.lClE_ren := {
  mixed := by kernel_rfl
  f41 := ⟨Tryz.f49.name, by decide, Tryz.func49.trans (congrArg some (by kernel_rfl))⟩
  t4 := Tryz.underlying4
  a4 := Tryz.isAgg4
  z4 := Tryz.sizeOf4
  v4 := Tryz.zeroValue4
  t22 := Tryz.underlying24
  a22 := Tryz.isAgg24
  z22 := Tryz.sizeOf24
  v22 := Tryz.zeroValue24 }
def Tryz.lClT_ren : Go.Shelf.Ren := ⟨fun | 41 => 50 | n => n, fun | 22 => 26 | 23 => 55 | 4 => 4 | n => n, fun | n => n⟩
theorem Tryz.lClT : Go.Proofs.SlLaysE0.n41 Tryz.prog Tryz.lClT_ren := {
  mixed := by kernel_rfl
  f41 := ⟨Tryz.f50.name, by decide, Tryz.func50.trans (congrArg some (by kernel_rfl))⟩
  t4 := Tryz.underlying4
  a4 := Tryz.isAgg4
  z4 := Tryz.sizeOf4
  v4 := Tryz.zeroValue4
  t22 := Tryz.underlying26
  a22 := Tryz.isAgg26
  z22 := Tryz.sizeOf26
  v22 := Tryz.zeroValue26 }
def Tryz.lClR_ren : Go.Shelf.Ren := ⟨fun | 41 => 51 | n => n, fun | 22 => 25 | 23 => 69 | 4 => 4 | n => n, fun | n => n⟩
theorem Tryz.lClR : Go.Proofs.SlLaysE0.n41 Tryz.prog Tryz.lClR_ren := {
  mixed := by kernel_rfl
  f41 := ⟨Tryz.f51.name, by decide, Tryz.func51.trans (congrArg some (by kernel_rfl))⟩
  t4 := Tryz.underlying4
  a4 := Tryz.isAgg4
  z4 := Tryz.sizeOf4
  v4 := Tryz.zeroValue4
  t22 := Tryz.underlying25
  a22 := Tryz.isAgg25
  z22 := Tryz.sizeOf25
  v22 := Tryz.zeroValue25 }
def Tryz.lClH_ren : Go.Shelf.Ren := ⟨fun | 41 => 52 | n => n, fun | 22 => 58 | 23 => 114 | 4 => 4 | n => n, fun | n => n⟩
theorem Tryz.lClH : Go.Proofs.SlLaysE0.n41 Tryz.prog Tryz.lClH_ren := {
  mixed := by kernel_rfl
  f41 := ⟨Tryz.f52.name, by decide, Tryz.func52.trans (congrArg some (by kernel_rfl))⟩
  t4 := Tryz.underlying4
  a4 := Tryz.isAgg4
  z4 := Tryz.sizeOf4
  v4 := Tryz.zeroValue4
  t22 := Tryz.underlying58
  a22 := Tryz.isAgg58
  z22 := Tryz.sizeOf58
  v22 := Tryz.zeroValue58 }
def Tryz.lClP_ren : Go.Shelf.Ren := ⟨fun | 41 => 53 | n => n, fun | 22 => 61 | 23 => 72 | 4 => 4 | n => n, fun | n => n⟩
theorem Tryz.lClP : Go.Proofs.SlLaysE0.n41 Tryz.prog Tryz.lClP_ren := {
  mixed := by kernel_rfl
  f41 := ⟨Tryz.f53.name, by decide, Tryz.func53.trans (congrArg some (by kernel_rfl))⟩
  t4 := Tryz.underlying4
  a4 := Tryz.isAgg4
  z4 := Tryz.sizeOf4
  v4 := Tryz.zeroValue4
  t22 := Tryz.underlying61
  a22 := Tryz.isAgg61
  z22 := Tryz.sizeOf61
  v22 := Tryz.zeroValue61 }
def Tryz.lClS_ren : Go.Shelf.Ren := ⟨fun | 41 => 48 | n => n, fun | 22 => 49 | 23 => 9 | 4 => 4 | n => n, fun | n => n⟩
theorem Tryz.lClS : Go.Proofs.SlLaysE0.n41 Tryz.prog Tryz.lClS_ren := {
  mixed := by kernel_rfl
  f41 := ⟨Tryz.f48.name, by decide, Tryz.func48.trans (congrArg some (by kernel_rfl))⟩
  t4 := Tryz.underlying4
  a4 := Tryz.isAgg4
  z4 := Tryz.sizeOf4
  v4 := Tryz.zeroValue4
  t22 := Tryz.underlying49
  a22 := Tryz.isAgg49
  z22 := Tryz.sizeOf49
  v22 := Tryz.zeroValue49 }
end Go.Proofs
namespace Go.Proofs.YtoaiakhnnfbkdaaGreatDoor
open Go.ChangeShapes Go.WideShapes Go.ChangeAt Go.RowKit Go.Lib Go.Shelf
theorem info_z {P : Program} {t : TypeId} {z : Value} {s b : Nat} (h : (P.info? t).map (fun i => (i.zero,i.size,i.bytes)) = some (some z,s,b)) : ∃ i,P.info? t = some i /\ i.zero = some z /\ i.size = s /\ i.bytes = b := by
 cases hi : P.info? t with
 | none => rw [hi] at h; cases h
 | some i =>
  rw [hi] at h;simp only [Option.map_some,Option.some.injEq,Prod.mk.injEq] at h;exact ⟨i,rfl,h.1,h.2.1,h.2.2⟩
theorem flat_set {α : Type} {enc : α -> List Value} {k : Nat} (hk : ∀ x,(enc x).length = k) (u : Value) (x' : α) (j : Nat) (hj : j < k) : ∀ (xs : List α) (i : Nat) (hi : i < xs.length),enc x' = (enc xs[i]).set j u -> (xs.flatMap enc).set (i * k + j) u = (xs.set i x').flatMap enc
 | [],_,hi,_ => absurd hi (Nat.not_lt_zero _)
 | y :: ys,0,_,he => by
  show (enc y ++ ys.flatMap enc).set (0 * k + j) u = enc x' ++ ys.flatMap enc;rw [Nat.zero_mul,Nat.zero_add,List.set_append_left _ _ (by rw [hk]; exact hj),he]
  rfl
 | y :: ys,i + 1,hi,he => by
  show (enc y ++ ys.flatMap enc).set ((i + 1) * k + j) u = enc y ++ (ys.set i x').flatMap enc;rw [List.set_append_right _ _ (by rw [hk,Nat.succ_mul]; omega),hk,show (i + 1) * k + j - k = i * k + j by rw [Nat.succ_mul]; omega,flat_set hk u x' j hj ys i (by simpa using hi) he]
theorem owns_set1 {α : Type} {enc : α -> List Value} {k : Nat} (hk : ∀ x,(enc x).length = k) {base n cap g : Nat} {e : TypeId} {w : World} {xs : List α} (h : w.ownsRow base e k (.slice (some ⟨g,0,none⟩) n cap) n (xs.flatMap enc)) (i j : Nat) (hi : i < xs.length) (hj : j < k) (u : Value) (x' : α) (he : enc x' = (enc xs[i]).set j u) :
  (w.setCell ⟨g,i * k + j,none⟩ u).ownsRow base e k (.slice (some ⟨g,0,none⟩) n cap) n ((xs.set i x').flatMap enc) := by
 have := (h.stored (i * k + j) u).1;rw [<- flat_set hk u x' j hj xs i hi he];exact this
theorem owns_mono {w : World} {B B' : Nat} {e : TypeId} {size n : Nat} {v : Value} {xs : List Value} (h : w.ownsRow B e size v n xs) (hB : B' <= B) : w.ownsRow B' e size v n xs := by
 obtain ⟨h1,h2⟩ := h;refine ⟨h1, ?_⟩;rcases h2 with h2 | ⟨g,cap,cur,hv,hg,r⟩
 ·exact .inl h2
 ·exact .inr ⟨g,cap,cur,hv,by omega,r⟩
theorem owns_news {w : World} {B : Nat} {e : TypeId} {size n : Nat} {g c : Nat} {xs : List Value} (h : w.ownsRow B e size (.slice (some ⟨g,0,none⟩) n c) n xs) : ∀ j u,xs[j]? = some u -> w.cell? ⟨g,0 + j,none⟩ = some u := fun j u hu => by
 have := h.cells (g := g) rfl j u hu;rw [add_cell] at this;rw [Nat.zero_add];exact this
theorem clV_any {B : Nat} (xs : List SvcD) (v : Value) (w : World) (h : w.ownsRow B 51 7 v xs.length (xs.flatMap encV)) (hl : xs.length <= 1000000) (h1 : ∀ u ∈ xs.flatMap encV,u.oneCell' = true) :
  Calls Tryz.prog 47 #[v] w fun e w' => ∃ v',e = .returned v' /\ w'.ownsRow w.heap.size 51 7 v' xs.length (xs.flatMap encV) /\ Ext w w' := by
 obtain ⟨i0,z,hi,hz0,hz1,hz2,hzs⟩ := info_partsN Tryz.infoV;rcases h.2 with ⟨rfl,h0⟩ | ⟨g,cap,cur,rfl,hb,hg,hnc,hcm,hcs,ht⟩
 ·refine (AnyE.slices_Clone_nil Tryz.lClV _ _ w).mono ?_;rintro e w' ⟨rfl,rfl⟩;exact ⟨_,rfl,⟨h.1,.inl ⟨rfl,h0⟩⟩,zb⟩
 ·refine (AnyE.slices_Clone Tryz.lClV i0 z 7 72 hi hz0 hz1 hz2 hzs (by decide) (fun w => by kernel_rfl) g 0 xs.length cap (xs.flatMap encV) w (by rw [length_flatMap_enc encV_len]) (by unfold maxLen; omega) (by omega) (owns_news h) h1).mono ?_;rintro e w' ⟨v',rfl,h2,-,h3⟩;exact ⟨v',rfl,h2,h3⟩
theorem clE_any {B : Nat} (xs : List EndD) (v : Value) (w : World) (h : w.ownsRow B 53 3 v xs.length (xs.flatMap encE)) (hl : xs.length <= 1000000) (h1 : ∀ u ∈ xs.flatMap encE,u.oneCell' = true) :
  Calls Tryz.prog 49 #[v] w fun e w' => ∃ v',e = .returned v' /\ w'.ownsRow w.heap.size 53 3 v' xs.length (xs.flatMap encE) /\ Ext w w' := by
 obtain ⟨i0,z,hi,hz0,hz1,hz2,hzs⟩ := info_partsN Tryz.infoE;rcases h.2 with ⟨rfl,h0⟩ | ⟨g,cap,cur,rfl,hb,hg,hnc,hcm,hcs,ht⟩
 ·refine (AnyE.slices_Clone_nil Tryz.lClE _ _ w).mono ?_;rintro e w' ⟨rfl,rfl⟩;exact ⟨_,rfl,⟨h.1,.inl ⟨rfl,h0⟩⟩,zb⟩
 ·refine (AnyE.slices_Clone Tryz.lClE i0 z 3 24 hi hz0 hz1 hz2 hzs (by decide) (fun w => by kernel_rfl) g 0 xs.length cap (xs.flatMap encE) w (by rw [length_flatMap_enc encE_len]) (by unfold maxLen; omega) (by omega) (owns_news h) h1).mono ?_;rintro e w' ⟨v',rfl,h2,-,h3⟩;exact ⟨v',rfl,h2,h3⟩
theorem clT_any {B : Nat} (xs : List RateD) (v : Value) (w : World) (h : w.ownsRow B 55 3 v xs.length (xs.flatMap encT)) (hl : xs.length <= 1000000) (h1 : ∀ u ∈ xs.flatMap encT,u.oneCell' = true) :
  Calls Tryz.prog 50 #[v] w fun e w' => ∃ v',e = .returned v' /\ w'.ownsRow w.heap.size 55 3 v' xs.length (xs.flatMap encT) /\ Ext w w' := by
 obtain ⟨i0,z,hi,hz0,hz1,hz2,hzs⟩ := info_partsN Tryz.infoT;rcases h.2 with ⟨rfl,h0⟩ | ⟨g,cap,cur,rfl,hb,hg,hnc,hcm,hcs,ht⟩
 ·refine (AnyE.slices_Clone_nil Tryz.lClT _ _ w).mono ?_;rintro e w' ⟨rfl,rfl⟩;exact ⟨_,rfl,⟨h.1,.inl ⟨rfl,h0⟩⟩,zb⟩
 ·refine (AnyE.slices_Clone Tryz.lClT i0 z 3 24 hi hz0 hz1 hz2 hzs (by decide) (fun w => by kernel_rfl) g 0 xs.length cap (xs.flatMap encT) w (by rw [length_flatMap_enc encT_len]) (by unfold maxLen; omega) (by omega) (owns_news h) h1).mono ?_;rintro e w' ⟨v',rfl,h2,-,h3⟩;exact ⟨v',rfl,h2,h3⟩
theorem clR_any {B : Nat} (xs : List RuleD) (v : Value) (w : World) (h : w.ownsRow B 69 19 v xs.length (xs.flatMap encR)) (hl : xs.length <= 1000000) (h1 : ∀ u ∈ xs.flatMap encR,u.oneCell' = true) :
  Calls Tryz.prog 51 #[v] w fun e w' => ∃ v',e = .returned v' /\ w'.ownsRow w.heap.size 69 19 v' xs.length (xs.flatMap encR) /\ Ext w w' := by
 obtain ⟨i0,z,hi,hz0,hz1,hz2,hzs⟩ := info_partsN Tryz.infoR;rcases h.2 with ⟨rfl,h0⟩ | ⟨g,cap,cur,rfl,hb,hg,hnc,hcm,hcs,ht⟩
 ·refine (AnyE.slices_Clone_nil Tryz.lClR _ _ w).mono ?_;rintro e w' ⟨rfl,rfl⟩;exact ⟨_,rfl,⟨h.1,.inl ⟨rfl,h0⟩⟩,zb⟩
 ·refine (AnyE.slices_Clone Tryz.lClR i0 z 19 232 hi hz0 hz1 hz2 hzs (by decide) (fun w => by kernel_rfl) g 0 xs.length cap (xs.flatMap encR) w (by rw [length_flatMap_enc encR_len]) (by unfold maxLen; omega) (by omega) (owns_news h) h1).mono ?_;rintro e w' ⟨v',rfl,h2,-,h3⟩;exact ⟨v',rfl,h2,h3⟩
theorem clH_any {B : Nat} (xs : List HeadD) (v : Value) (w : World) (h : w.ownsRow B 114 2 v xs.length (xs.flatMap encH)) (hl : xs.length <= 1000000) (h1 : ∀ u ∈ xs.flatMap encH,u.oneCell' = true) :
  Calls Tryz.prog 52 #[v] w fun e w' => ∃ v',e = .returned v' /\ w'.ownsRow w.heap.size 114 2 v' xs.length (xs.flatMap encH) /\ Ext w w' := by
 obtain ⟨i0,hi,hz0,hz1,hz2⟩ := info_z Tryz.infoH;rcases h.2 with ⟨rfl,h0⟩ | ⟨g,cap,cur,rfl,hb,hg,hnc,hcm,hcs,ht⟩
 ·refine (AnyE.slices_Clone_nil Tryz.lClH _ _ w).mono ?_;rintro e w' ⟨rfl,rfl⟩;exact ⟨_,rfl,⟨h.1,.inl ⟨rfl,h0⟩⟩,zb⟩
 ·refine (AnyE.slices_Clone Tryz.lClH i0 (.agg #[.string ByteArray.empty,.string ByteArray.empty]) 2 32 hi hz0 hz1 hz2 rfl (by decide) (fun w => by kernel_rfl) g 0 xs.length cap (xs.flatMap encH) w (by rw [length_flatMap_enc encH_len]) (by unfold maxLen; omega) (by omega) (owns_news h) h1).mono ?_;rintro e w' ⟨v',rfl,h2,-,h3⟩;exact ⟨v',rfl,h2,h3⟩
theorem clP_any {B : Nat} (xs : List (Int × Int)) (v : Value) (w : World) (h : w.ownsRow B 72 2 v xs.length (xs.flatMap encP)) (hl : xs.length <= 1000000) (h1 : ∀ u ∈ xs.flatMap encP,u.oneCell' = true) :
  Calls Tryz.prog 53 #[v] w fun e w' => ∃ v',e = .returned v' /\ w'.ownsRow w.heap.size 72 2 v' xs.length (xs.flatMap encP) /\ Ext w w' := by
 obtain ⟨i0,hi,hz0,hz1,hz2⟩ := info_z Tryz.infoP;rcases h.2 with ⟨rfl,h0⟩ | ⟨g,cap,cur,rfl,hb,hg,hnc,hcm,hcs,ht⟩
 ·refine (AnyE.slices_Clone_nil Tryz.lClP _ _ w).mono ?_;rintro e w' ⟨rfl,rfl⟩;exact ⟨_,rfl,⟨h.1,.inl ⟨rfl,h0⟩⟩,zb⟩
 ·refine (AnyE.slices_Clone Tryz.lClP i0 (.agg #[.int .i64 0,.int .i64 0]) 2 16 hi hz0 hz1 hz2 rfl (by decide) (fun w => by kernel_rfl) g 0 xs.length cap (xs.flatMap encP) w (by rw [length_flatMap_enc encP_len']) (by unfold maxLen; omega) (by omega) (owns_news h) h1).mono ?_;rintro e w' ⟨v',rfl,h2,-,h3⟩;exact ⟨v',rfl,h2,h3⟩
theorem clS_any {B : Nat} (xs : List ByteArray) (v : Value) (w : World) (h : w.ownsRow B 9 1 v xs.length (xs.flatMap encS)) (hl : xs.length <= 1000000) (h1 : ∀ u ∈ xs.flatMap encS,u.oneCell' = true) :
  Calls Tryz.prog 48 #[v] w fun e w' => ∃ v',e = .returned v' /\ w'.ownsRow w.heap.size 9 1 v' xs.length (xs.flatMap encS) /\ Ext w w' := by
 obtain ⟨i0,hi,hz0,hz1,hz2⟩ := info_z Tryz.infoS;rcases h.2 with ⟨rfl,h0⟩ | ⟨g,cap,cur,rfl,hb,hg,hnc,hcm,hcs,ht⟩
 ·refine (AnyE.slices_Clone_nil Tryz.lClS _ _ w).mono ?_;rintro e w' ⟨rfl,rfl⟩;exact ⟨_,rfl,⟨h.1,.inl ⟨rfl,h0⟩⟩,zb⟩
 ·refine (AnyE.slices_Clone Tryz.lClS i0 (.string ByteArray.empty) 1 16 hi hz0 hz1 hz2 rfl (by decide) (fun w => by kernel_rfl) g 0 xs.length cap (xs.flatMap encS) w (by rw [length_flatMap_enc encS_len]) (by unfold maxLen; omega) (by omega) (owns_news h) h1).mono ?_;rintro e w' ⟨v',rfl,h2,-,h3⟩;exact ⟨v',rfl,h2,h3⟩
structure LenC (c : ConfD) : Prop where
 s : ∀ s ∈ c.S,s.K.length <= 1000000
 r : ∀ r ∈ c.R,r.H.length <= 1000000 /\ r.P.length <= 1000000 /\ r.S.length <= 1000000 /\ r.D.length <= 1000000
structure CpS (w0 w : World) (b B kS kR bs be bt br : Nat) (c0 c : ConfD) : Prop where
 ext : Ext w0 w
 box : BoxC w b c
 hb : w0.heap.size <= b
 hB : B <= w0.heap.size
 core : c.core = c0.core
 len : LenC c
 s : w.ownsRow bs 51 7 c.sv c.S.length (c.S.flatMap encV)
 k : ∀ i s,c.S[i]? = some s -> w.ownsRow (if i < kS then w0.heap.size else B) 9 1 s.kv s.K.length (s.K.flatMap encS)
 e : w.ownsRow be 53 3 c.ev c.E.length (c.E.flatMap encE)
 r : w.ownsRow br 69 19 c.rv c.R.length (c.R.flatMap encR)
 rr : ∀ i r,c.R[i]? = some r -> RuleOwn (if i < kR then w0.heap.size else B) w r
 t : w.ownsRow bt 55 3 c.tv c.T.length (c.T.flatMap encT)
theorem cell_row {w : World} {base n g c : Nat} {e : TypeId} {size : Nat} {α : Type} {enc : α -> List Value} {xs : List α} (hk : ∀ x,(enc x).length = size) (h : w.ownsRow base e size (.slice (some ⟨g,0,none⟩) n c) n (xs.flatMap enc)) (i : Nat) (hi : i < xs.length) (j : Nat) (u : Value) (hu : (enc xs[i])[j]? = some u) : w.cell? ⟨g,i * size + j,none⟩ = some u /\ w.frozen? ⟨g,i * size + j,none⟩ = false := by
 have := h.cells (g := g) rfl (i * size + j) u (getElem?_flatMap_enc hk xs i j xs[i] u (List.getElem?_eq_getElem hi) hu);rw [add_cell] at this;exact ⟨this,h.frozenAt _⟩
section
variable {w0 w : World} {b B kS kR bs be bt br : Nat} {c0 c : ConfD}
theorem CpS.keep {w' : World} (h : CpS w0 w b B kS kR bs be bt br c0 c) (e : Ext w w') : CpS w0 w' b B kS kR bs be bt br c0 c :=
 ⟨h.ext.trans e,h.box.ext e,h.hb,h.hB,h.core,h.len,owns_ext h.s e,fun i s hs => owns_ext (h.k i s hs) e,owns_ext h.e e,owns_ext h.r e,fun i r hr => (h.rr i r hr).ext e,owns_ext h.t e⟩
theorem CpS.put {c' : ConfD} {bs' be' bt' br' : Nat} (h : CpS w0 w b B kS kR bs be bt br c0 c) (j : Nat) (v : Value) (he : encC c' = (encC c).set j v) (hc : c'.core = c.core) (hS : c'.S = c.S) (hR : c'.R = c.R) (hE : c'.E = c.E) (hT : c'.T = c.T)
  (s : w.ownsRow bs' 51 7 c'.sv c.S.length (c.S.flatMap encV)) (e : w.ownsRow be' 53 3 c'.ev c.E.length (c.E.flatMap encE)) (r : w.ownsRow br' 69 19 c'.rv c.R.length (c.R.flatMap encR)) (t : w.ownsRow bt' 55 3 c'.tv c.T.length (c.T.flatMap encT)) :
  CpS w0 (w.setCell ⟨b,j,none⟩ v) b B kS kR bs' be' bt' br' c0 c' := by
 have hk : Keeps (fun g => g = b) w (w.setCell ⟨b,j,none⟩ v) := Keeps.of_set w b j v rfl;have hX : OfT w (fun g => g = b) 30 := OfT.one h.box;refine ⟨Keeps.ext h.ext hk (fun g hg => by have := h.hb; omega),h.box.set j v he,h.hb,h.hB,hc.trans h.core,⟨by rw [hS]; exact h.len.s,by rw [hR]; exact h.len.r⟩, ?_, ?_, ?_, ?_, ?_, ?_⟩
 ·rw [hS]; exact owns_keepT s hk hX (by decide)
 ·rw [hS]; exact fun i s hs => owns_keepT (h.k i s hs) hk hX (by decide)
 ·rw [hE]; exact owns_keepT e hk hX (by decide)
 ·rw [hR]; exact owns_keepT r hk hX (by decide)
 ·rw [hR]; exact fun i r hr => (h.rr i r hr).keepT hk hX (by decide) (by decide) (by decide)
 ·rw [hT]; exact owns_keepT t hk hX (by decide)
theorem map_set_core {α β : Type} (f : α -> β) (l : List α) (i : Nat) (x : α) (hi : i < l.length) (h : f x = f l[i]) : (l.set i x).map f = l.map f := by
 apply List.ext_getElem (by simp);intro n h1 h2;simp only [List.getElem_map,List.getElem_set];split
 ·rename_i e;subst e;exact h
 ·rfl
theorem CpS.setS {g n cap : Nat} {i : Nat} (h : CpS w0 w b B i kR bs be bt br c0 c) (hv : c.sv = .slice (some ⟨g,0,none⟩) n cap) (hbs : w0.heap.size <= bs) (hi : i < c.S.length) (v' : Value) (hv' : w.ownsRow w0.heap.size 9 1 v' c.S[i].K.length (c.S[i].K.flatMap encS)) :
  CpS w0 (w.setCell ⟨g,i * 7 + 1,none⟩ v') b B (i + 1) kR bs be bt br c0 { c with S := c.S.set i { c.S[i] with kv := v' } } := by
 have hk : Keeps (fun k => k = g) w (w.setCell ⟨g,i * 7 + 1,none⟩ v') := Keeps.of_set w g _ v' rfl;have hs := h.s;rw [hv] at hs
 have hn : n = c.S.length := by
  rcases hs.2 with ⟨e,_⟩ | ⟨g',cap',cur,e,_⟩ <;> cases e
  rfl
 subst hn
 have hX : OfT w (fun k => k = g) 51 := fun k hk => by
  subst hk;exact OfT.own hs k rfl
 have hg : bs <= g := (hs.lt g rfl).1;have hs2 := owns_set1 encV_len hs i 1 hi (by decide) v' { c.S[i] with kv := v' } rfl
 have hbg : b ≠ g := fun e => by
  obtain ⟨cs,f,hc⟩ := hX g rfl;rw [<- e,h.box] at hc;cases hc
 refine ⟨Keeps.ext h.ext hk (fun k hk => by omega),h.box.keep (hk.block b h.box.lt hbg),h.hb,h.hB, ?_,⟨?_,h.len.r⟩, ?_, ?_,owns_keepT h.e hk hX (by decide),owns_keepT h.r hk hX (by decide),fun i r hr => (h.rr i r hr).keepT hk hX (by decide) (by decide) (by decide),owns_keepT h.t hk hX (by decide)⟩
 ·rw [<- h.core];unfold ConfD.core;congr 1;exact map_set_core SvcD.core c.S i _ hi rfl
 ·intro s hs;rcases List.mem_or_eq_of_mem_set hs with hm | rfl
  ·exact h.len.s s hm
  ·exact h.len.s c.S[i] (List.getElem_mem hi)
 ·show World.ownsRow _ bs _ 7 c.sv (c.S.set i _).length _;rw [List.length_set,hv];exact hs2
 ·intro k s hs;rw [List.getElem?_set] at hs;by_cases e : i = k
  ·subst e;rw [if_pos rfl,if_pos hi] at hs;cases hs;rw [if_pos (Nat.lt_succ_self _)];exact owns_keepT hv' hk hX (by decide)
  ·rw [if_neg e] at hs;have := h.k k s hs;have e2 : (k < i + 1) ↔ (k < i) := (by omega);simp only [e2];exact owns_keepT this hk hX (by decide)
theorem CpS.setR {g n cap : Nat} {i : Nat} (h : CpS w0 w b B kS i bs be bt br c0 c) (hv : c.rv = .slice (some ⟨g,0,none⟩) n cap) (hbr : w0.heap.size <= br) (hi : i < c.R.length) (r' : RuleD) (j : Nat) (hj : j < 19) (v' : Value) (he : encR r' = (encR c.R[i]).set j v') (hc : r'.core = c.R[i].core) (hr' : RuleOwn B w r') :
  CpS w0 (w.setCell ⟨g,i * 19 + j,none⟩ v') b B kS i bs be bt br c0 { c with R := c.R.set i r' } /\ Keeps (fun k => k = g) w (w.setCell ⟨g,i * 19 + j,none⟩ v') /\ OfT w (fun k => k = g) 69 := by
 have hk : Keeps (fun k => k = g) w (w.setCell ⟨g,i * 19 + j,none⟩ v') := Keeps.of_set w g _ v' rfl;have hs := h.r;rw [hv] at hs
 have hn : n = c.R.length := by
  rcases hs.2 with ⟨e,_⟩ | ⟨g',cap',cur,e,_⟩ <;> cases e
  rfl
 subst hn
 have hX : OfT w (fun k => k = g) 69 := fun k hk => by
  subst hk;exact OfT.own hs k rfl
 have hg : br <= g := (hs.lt g rfl).1;have hs2 := owns_set1 encR_len hs i j hi hj v' r' he
 have hbg : b ≠ g := fun e => by
  obtain ⟨cs,f,hc⟩ := hX g rfl;rw [<- e,h.box] at hc;cases hc
 refine ⟨⟨Keeps.ext h.ext hk (fun k hk => by omega),h.box.keep (hk.block b h.box.lt hbg),h.hb,h.hB, ?_,⟨h.len.s, ?_⟩,owns_keepT h.s hk hX (by decide),fun i s hs => owns_keepT (h.k i s hs) hk hX (by decide),owns_keepT h.e hk hX (by decide), ?_, ?_,owns_keepT h.t hk hX (by decide)⟩,hk,hX⟩
 ·rw [<- h.core];unfold ConfD.core;congr 1;exact map_set_core RuleD.core c.R i _ hi hc
 ·intro s hs;rcases List.mem_or_eq_of_mem_set hs with hm | rfl
  ·exact h.len.r s hm
  ·have := h.len.r c.R[i] (List.getElem_mem hi);have e1 : s.core.H = c.R[i].core.H := (by rw [hc]);have e2 : s.core.P = c.R[i].core.P := (by rw [hc]);have e3 : s.core.S = c.R[i].core.S := (by rw [hc]);have e4 : s.core.D = c.R[i].core.D := (by rw [hc]);have f1 : s.H = c.R[i].H := e1;have f2 : s.P = c.R[i].P := e2;have f3 : s.S = c.R[i].S := e3;have f4 : s.D = c.R[i].D := e4;rw [f1,f2,f3,f4];exact this
 ·show World.ownsRow _ br _ 19 c.rv (c.R.set i _).length _;rw [List.length_set,hv];exact hs2
 ·intro k s hs;rw [List.getElem?_set] at hs;by_cases e : i = k
  ·subst e;rw [if_pos rfl,if_pos hi] at hs;cases hs;rw [if_neg (Nat.lt_irrefl _)];exact hr'.keepT hk hX (by decide) (by decide) (by decide)
  ·rw [if_neg e] at hs;exact (h.rr k s hs).keepT hk hX (by decide) (by decide) (by decide)
theorem CpS.rise {i : Nat} (h : CpS w0 w b B kS i bs be bt br c0 c) (hi : ∀ r,c.R[i]? = some r -> RuleOwn w0.heap.size w r) : CpS w0 w b B kS (i + 1) bs be bt br c0 c :=
 ⟨h.ext,h.box,h.hb,h.hB,h.core,h.len,h.s,h.k,h.e,h.r,fun k r hr => by
  by_cases e : k = i
  ·subst e;rw [if_pos (Nat.lt_succ_self _)];exact hi r hr
  ·have e2 : (k < i + 1) ↔ (k < i) := (by omega);simp only [e2]
   exact h.rr k r hr,h.t⟩
theorem CpS.cellR {g n cap i : Nat} {r : RuleD} (h : CpS w0 w b B kS kR bs be bt br c0 c) (hv : c.rv = .slice (some ⟨g,0,none⟩) n cap) (hr : c.R[i]? = some r) (j : Nat) (u : Value) (hu : (encR r)[j]? = some u) : w.cell? ⟨g,i * 19 + j,none⟩ = some u /\ w.frozen? ⟨g,i * 19 + j,none⟩ = false := by
 obtain ⟨hi,rfl⟩ := List.getElem?_eq_some_iff.1 hr;have hs := h.r;rw [hv] at hs
 have hn : n = c.R.length := by
  rcases hs.2 with ⟨e,_⟩ | ⟨g',cap',cur,e,_⟩ <;> cases e
  rfl
 subst hn;exact cell_row encR_len hs i hi j u hu
theorem CpS.stepR {g n cap i : Nat} {r : RuleD} (h : CpS w0 w b B kS i bs be bt br c0 c) (hv : c.rv = .slice (some ⟨g,0,none⟩) n cap) (hbr : w0.heap.size <= br) (hr : c.R[i]? = some r) {w1 : World} (E : Ext w w1) (r' : RuleD) (j : Nat) (hj : j < 19) (v' : Value) (he : encR r' = (encR r).set j v') (hc : r'.core = r.core) (hr' : RuleOwn B w1 r') :
  ∃ c' : ConfD,CpS w0 (w1.setCell ⟨g,i * 19 + j,none⟩ v') b B kS i bs be bt br c0 c' /\ c'.rv = c.rv /\ c'.R.length = c.R.length /\ c'.R[i]? = some r' /\ Keeps (fun q => q = g) w1 (w1.setCell ⟨g,i * 19 + j,none⟩ v') /\ OfT w1 (fun q => q = g) 69 := by
 obtain ⟨hi,rfl⟩ := List.getElem?_eq_some_iff.1 hr;obtain ⟨h1,h2,h3⟩ := (h.keep E).setR hv hbr hi r' j hj v' he hc hr';exact ⟨_,h1,rfl,List.length_set,by show (c.R.set i r')[i]? = _; rw [List.getElem?_set,if_pos rfl,if_pos hi],h2,h3⟩
end
def Box2 (w : World) (b : Nat) : Prop := ∃ cs,w.heap[b]? = some (.cells cs 30 (0,0)) /\ cs.size = 20
theorem Box2.keep {w w' : World} {b : Nat} {X : Nat -> Prop} {T : TypeId} (h : Box2 w b) (hk : Keeps X w w') (hX : OfT w X T) (hT : T ≠ 30) : Box2 w' b := by
 obtain ⟨cs,h1,h2⟩ := h
 exact ⟨cs,(hk.block b (zg h1) (fun hx => by
  obtain ⟨cs',f,h'⟩ := hX b hx;rw [h1] at h';cases h'
  exact hT rfl)).trans h1,h2⟩
theorem Box2.ext {w w' : World} {b : Nat} (h : Box2 w b) (e : Ext w w') : Box2 w' b := by
 obtain ⟨cs,h1,h2⟩ := h;exact ⟨cs,(e.block b (zg h1)).trans h1,h2⟩
theorem Box2.set {w : World} {b b' : Nat} (h : Box2 w b) (hne : b ≠ b') (j : Nat) (v : Value) : Box2 (w.setCell ⟨b',j,none⟩ v) b := by
 obtain ⟨cs,h1,h2⟩ := h;exact ⟨cs,(Below.heap_setCell w _ v b hne).trans h1,h2⟩
theorem ones_V {w : World} {B : Nat} {S : List SvcD} (h : ∀ (i : Nat) (s : SvcD),S[i]? = some s -> w.ownsRow B 9 1 s.kv s.K.length (s.K.flatMap encS)) : ∀ u ∈ S.flatMap encV,u.oneCell' = true := by
 intro u hu;obtain ⟨s,hs,hu⟩ := List.mem_flatMap.1 hu;obtain ⟨i,hi,rfl⟩ := List.getElem_of_mem hs;obtain ⟨a,c,hv⟩ := owns_shape (h i S[i] (List.getElem?_eq_getElem hi));exact encV_one ⟨a,_,c,hv⟩ u hu
theorem ones_R {w : World} {B : Nat} {R : List RuleD} (h : ∀ (i : Nat) (r : RuleD),R[i]? = some r -> RuleOwn B w r) : ∀ u ∈ R.flatMap encR,u.oneCell' = true := by
 intro u hu;obtain ⟨s,hs,hu⟩ := List.mem_flatMap.1 hu;obtain ⟨i,hi,rfl⟩ := List.getElem_of_mem hs;exact encR_one _ (h i R[i] (List.getElem?_eq_getElem hi)) u hu
theorem ones {α : Type} {enc : α -> List Value} (h1 : ∀ x,∀ u ∈ enc x,u.oneCell' = true) (l : List α) : ∀ u ∈ l.flatMap enc,u.oneCell' = true := by
 intro u hu;obtain ⟨s,hs,hu⟩ := List.mem_flatMap.1 hu;exact h1 s u hu
theorem encT_one (s : RateD) : ∀ u ∈ encT s,u.oneCell' = true := by
 intro u hu;simp [encT] at hu;rcases hu with rfl | rfl | rfl <;> rfl
theorem encC_one' {B : Nat} {w : World} {c : ConfD} (h : ConfOwn B w c) : ∀ u ∈ encC c,u.oneCell' = true := by
 obtain ⟨a1,c1,h1⟩ := owns_shape h.s;obtain ⟨a2,c2,h2⟩ := owns_shape h.e;obtain ⟨a3,c3,h3⟩ := owns_shape h.r;obtain ⟨a4,c4,h4⟩ := owns_shape h.t;intro u hu;unfold encC at hu;rw [h1,h2,h3,h4] at hu;simp only [List.mem_cons,List.not_mem_nil,or_false] at hu;rcases hu with rfl | rfl | rfl | rfl | rfl | rfl | rfl | rfl | rfl | rfl | rfl | rfl | rfl | rfl | rfl | rfl | rfl | rfl | rfl | rfl <;> rfl
def PhCl (W : World) (g o : Nat) (K : List ByteArray) : List Value -> World -> Prop
 | [],w' => Ext W w'
 | [v],w' => ∃ a c,v = .slice a K.length c /\ w'.ownsRow W.heap.size 9 1 v K.length (K.flatMap encS) /\ Ext W w'
 | v :: _ :: _,w' => ∃ a c w8,v = .slice a K.length c /\ w8.ownsRow W.heap.size 9 1 v K.length (K.flatMap encS) /\ Ext W w8 /\ Ext (w8.setCell ⟨g,o,none⟩ v) w'
theorem PhCl.keep {W : World} {g o : Nat} {K : List ByteArray} : ∀ {vs : List Value} {w' w'' : World},PhCl W g o K vs w' -> Ext w' w'' -> PhCl W g o K vs w''
 | [],_,_,h,e => Ext.trans h e
 | [_],_,_,⟨a,c,h1,h2,h3⟩,e => ⟨a,c,h1,owns_ext h2 e,h3.trans e⟩
 | _ :: _ :: _,_,_,⟨a,c,w8,h1,h2,h3,h4⟩,e => ⟨a,c,w8,h1,h2,h3,h4.trans e⟩
theorem PhCl.x {W : World} {g o : Nat} {K : List ByteArray} {vs : List Value} {w' : World} (h : PhCl W g o K vs w') (hl : vs.length <= 1) : Ext W w' := by
 rcases vs with _ | ⟨v,_ | ⟨u,vs⟩⟩
 ·exact h
 ·obtain ⟨a,c,_,_,h3⟩ := h;exact h3
 ·simp at hl
theorem frame87 (x : Nat -> Value) : frameOf 87 x = #[x 0,x 1,x 2,x 3,x 4,x 5,x 6,x 7,x 8,x 9,x 10,x 11,x 12,x 13,x 14,x 15,x 16,x 17,x 18,x 19,x 20,x 21,x 22,x 23,x 24,x 25,x 26,x 27,x 28,x 29,x 30,x 31,x 32,x 33,x 34,x 35,x 36,x 37,x 38,x 39,x 40,x 41,x 42,x 43,x 44,x 45,x 46,x 47,x 48,x 49,x 50,x 51,x 52,x 53,x 54,x 55,x 56,x 57,x 58,x 59,x 60,x 61,x 62,x 63,x 64,x 65,x 66,x 67,x 68,x 69,x 70,x 71,x 72,x 73,x 74,x 75,x 76,x 77,x 78,x 79,x 80,x 81,x 82,x 83,x 84,x 85,x 86] := rfl
theorem copy_any (B : Nat) (c0 : ConfD) (w : World) (hB : B <= w.heap.size) (ho : ConfOwn B w c0) (hl : LenC c0) (hl1 : c0.S.length <= 1000000) (hl2 : c0.E.length <= 1000000) (hl3 : c0.R.length <= 1000000) (hl4 : c0.T.length <= 1000000) :
  Calls Tryz.prog 22 #[c0.val] w fun e w' => ∃ c,e = .returned c.val /\ c.core = c0.core /\ ConfOwn w.heap.size w' c /\ Ext w w' := by
 have hE1 : Ext w (w.alloc (.cells #[c0.sv,c0.ev,c0.rv,c0.tv,.int .i64 c0.w0,.int .i64 c0.w1,.int .i64 c0.w2,.int .i64 c0.w3,.int .i64 c0.w4,.int .i64 c0.w5,.int .i64 c0.w6,.int .i64 c0.panic,.int .i64 c0.low,.int .i64 c0.high,.int .i64 c0.wait,.int .i64 c0.hop,.int .i64 c0.life,.int .i64 c0.purse,.int .i64 c0.horizon,.int .i64 c0.sample] 30)) := za;have hE2 : Ext w ((w.alloc (.cells #[c0.sv,c0.ev,c0.rv,c0.tv,.int .i64 c0.w0,.int .i64 c0.w1,.int .i64 c0.w2,.int .i64 c0.w3,.int .i64 c0.w4,.int .i64 c0.w5,.int .i64 c0.w6,.int .i64 c0.panic,.int .i64 c0.low,.int .i64 c0.high,.int .i64 c0.wait,.int .i64 c0.hop,.int .i64 c0.life,.int .i64 c0.purse,.int .i64 c0.horizon,.int .i64 c0.sample] 30)).alloc (.cells #[.slice none 0 0,.slice none 0 0,.slice none 0 0,.slice none 0 0,.int .i64 0,.int .i64 0,.int .i64 0,.int .i64 0,.int .i64 0,.int .i64 0,.int .i64 0,.int .i64 0,.int .i64 0,.int .i64 0,.int .i64 0,.int .i64 0,.int .i64 0,.int .i64 0,.int .i64 0,.int .i64 0] 30)) := hE1.alloc (Nat.le_of_lt (by simp)) _;have hb1 : ((w.alloc (.cells #[c0.sv,c0.ev,c0.rv,c0.tv,.int .i64 c0.w0,.int .i64 c0.w1,.int .i64 c0.w2,.int .i64 c0.w3,.int .i64 c0.w4,.int .i64 c0.w5,.int .i64 c0.w6,.int .i64 c0.panic,.int .i64 c0.low,.int .i64 c0.high,.int .i64 c0.wait,.int .i64 c0.hop,.int .i64 c0.life,.int .i64 c0.purse,.int .i64 c0.horizon,.int .i64 c0.sample] 30)).alloc (.cells #[.slice none 0 0,.slice none 0 0,.slice none 0 0,.slice none 0 0,.int .i64 0,.int .i64 0,.int .i64 0,.int .i64 0,.int .i64 0,.int .i64 0,.int .i64 0,.int .i64 0,.int .i64 0,.int .i64 0,.int .i64 0,.int .i64 0,.int .i64 0,.int .i64 0,.int .i64 0,.int .i64 0] 30)).heap[w.heap.size]? = some (.cells #[c0.sv,c0.ev,c0.rv,c0.tv,.int .i64 c0.w0,.int .i64 c0.w1,.int .i64 c0.w2,.int .i64 c0.w3,.int .i64 c0.w4,.int .i64 c0.w5,.int .i64 c0.w6,.int .i64 c0.panic,.int .i64 c0.low,.int .i64 c0.high,.int .i64 c0.wait,.int .i64 c0.hop,.int .i64 c0.life,.int .i64 c0.purse,.int .i64 c0.horizon,.int .i64 c0.sample] 30 (0,0)) := (Below.heap_alloc _ _ _ (by simp)).trans (heap_alloc_new w _)
 have hb2 : Box2 ((w.alloc (.cells #[c0.sv,c0.ev,c0.rv,c0.tv,.int .i64 c0.w0,.int .i64 c0.w1,.int .i64 c0.w2,.int .i64 c0.w3,.int .i64 c0.w4,.int .i64 c0.w5,.int .i64 c0.w6,.int .i64 c0.panic,.int .i64 c0.low,.int .i64 c0.high,.int .i64 c0.wait,.int .i64 c0.hop,.int .i64 c0.life,.int .i64 c0.purse,.int .i64 c0.horizon,.int .i64 c0.sample] 30)).alloc (.cells #[.slice none 0 0,.slice none 0 0,.slice none 0 0,.slice none 0 0,.int .i64 0,.int .i64 0,.int .i64 0,.int .i64 0,.int .i64 0,.int .i64 0,.int .i64 0,.int .i64 0,.int .i64 0,.int .i64 0,.int .i64 0,.int .i64 0,.int .i64 0,.int .i64 0,.int .i64 0,.int .i64 0] 30)) (w.heap.size + 1) := ⟨_,by have := heap_alloc_new (w.alloc (.cells #[c0.sv,c0.ev,c0.rv,c0.tv,.int .i64 c0.w0,.int .i64 c0.w1,.int .i64 c0.w2,.int .i64 c0.w3,.int .i64 c0.w4,.int .i64 c0.w5,.int .i64 c0.w6,.int .i64 c0.panic,.int .i64 c0.low,.int .i64 c0.high,.int .i64 c0.wait,.int .i64 c0.hop,.int .i64 c0.life,.int .i64 c0.purse,.int .i64 c0.horizon,.int .i64 c0.sample] 30)) (.cells #[.slice none 0 0,.slice none 0 0,.slice none 0 0,.slice none 0 0,.int .i64 0,.int .i64 0,.int .i64 0,.int .i64 0,.int .i64 0,.int .i64 0,.int .i64 0,.int .i64 0,.int .i64 0,.int .i64 0,.int .i64 0,.int .i64 0,.int .i64 0,.int .i64 0,.int .i64 0,.int .i64 0] 30); simpa using this,rfl⟩
 have hcs : CpS w ((w.alloc (.cells #[c0.sv,c0.ev,c0.rv,c0.tv,.int .i64 c0.w0,.int .i64 c0.w1,.int .i64 c0.w2,.int .i64 c0.w3,.int .i64 c0.w4,.int .i64 c0.w5,.int .i64 c0.w6,.int .i64 c0.panic,.int .i64 c0.low,.int .i64 c0.high,.int .i64 c0.wait,.int .i64 c0.hop,.int .i64 c0.life,.int .i64 c0.purse,.int .i64 c0.horizon,.int .i64 c0.sample] 30)).alloc (.cells #[.slice none 0 0,.slice none 0 0,.slice none 0 0,.slice none 0 0,.int .i64 0,.int .i64 0,.int .i64 0,.int .i64 0,.int .i64 0,.int .i64 0,.int .i64 0,.int .i64 0,.int .i64 0,.int .i64 0,.int .i64 0,.int .i64 0,.int .i64 0,.int .i64 0,.int .i64 0,.int .i64 0] 30)) w.heap.size B 0 0 B B B B c0 c0 :=
  ⟨hE2,hb1,Nat.le_refl _,hB,rfl,hl,owns_ext ho.s hE2,fun i s hs => by rw [if_neg (Nat.not_lt_zero _)]; exact owns_ext (ho.k s (List.mem_of_getElem? hs)) hE2,owns_ext ho.e hE2,owns_ext ho.r hE2,fun i r hr => by rw [if_neg (Nat.not_lt_zero _)]; exact (ho.rr r (List.mem_of_getElem? hr)).ext hE2,owns_ext ho.t hE2⟩
 have HCS := hide hcs;have HB2 := hide hb2;have HL2 := hide hl2;have HL3 := hide hl3;have HL4 := hide hl4;clear hE1 hE2 hb1 hb2 hcs ho hl hl2 hl3 hl4;show Calls Tryz.prog 22 #[.agg #[c0.sv,c0.ev,c0.rv,c0.tv,.int .i64 c0.w0,.int .i64 c0.w1,.int .i64 c0.w2,.int .i64 c0.w3,.int .i64 c0.w4,.int .i64 c0.w5,.int .i64 c0.w6,.int .i64 c0.panic,.int .i64 c0.low,.int .i64 c0.high,.int .i64 c0.wait,.int .i64 c0.hop,.int .i64 c0.life,.int .i64 c0.purse,.int .i64 c0.horizon,.int .i64 c0.sample]] w _
 go_enter Tryz.func22,Tryz.ntmps22
 go_upto_region 1 with (fail)
 generalize ((w.alloc (.cells #[c0.sv,c0.ev,c0.rv,c0.tv,.int .i64 c0.w0,.int .i64 c0.w1,.int .i64 c0.w2,.int .i64 c0.w3,.int .i64 c0.w4,.int .i64 c0.w5,.int .i64 c0.w6,.int .i64 c0.panic,.int .i64 c0.low,.int .i64 c0.high,.int .i64 c0.wait,.int .i64 c0.hop,.int .i64 c0.life,.int .i64 c0.purse,.int .i64 c0.horizon,.int .i64 c0.sample] 30)).alloc (.cells #[.slice none 0 0,.slice none 0 0,.slice none 0 0,.slice none 0 0,.int .i64 0,.int .i64 0,.int .i64 0,.int .i64 0,.int .i64 0,.int .i64 0,.int .i64 0,.int .i64 0,.int .i64 0,.int .i64 0,.int .i64 0,.int .i64 0,.int .i64 0,.int .i64 0,.int .i64 0,.int .i64 0] 30)) = W at HCS HB2 ⊢;have q0 : W.cell? ⟨w.heap.size,0,none⟩ = some c0.sv := HCS.out.box.cell 0 _ rfl
 go_wp2_with fail
 refine (clV_any c0.S c0.sv W HCS.out.s hl1 (ones_V (fun i s hs => by have := HCS.out.k i s hs; rw [if_neg (Nat.not_lt_zero _)] at this; exact this))).mono ?_;rintro e w1 ⟨v1,rfl,h1,E1⟩;have k1 := HCS.out.keep E1;have f1 : w1.cell? ⟨w.heap.size,0,none⟩ = some c0.sv := k1.box.cell 0 _ rfl;have z1 : w1.frozen? ⟨w.heap.size,0,none⟩ = false := k1.box.frozen 0;obtain ⟨a1,n1,hv1⟩ := owns_shape h1;subst hv1;have p1 := k1.put (c' := { c0 with sv := .slice a1 c0.S.length n1 }) (bs' := w.heap.size) 0 (.slice a1 c0.S.length n1) rfl rfl rfl rfl rfl rfl (owns_mono h1 (HCS.out.ext.size)) k1.e k1.r k1.t;have b1 := (HB2.out.ext E1).set (b' := w.heap.size) (by omega) 0 (.slice a1 c0.S.length n1);have P1 := hide p1;have BX1 := hide b1;clear p1 b1 k1 h1 q0
 go_upto_region 2 with (fail)
 generalize w1.setCell ⟨w.heap.size,0,none⟩ (.slice a1 c0.S.length n1) = W1 at P1 BX1 ⊢;clear f1 z1 E1 HCS HB2;have q0 : W1.cell? ⟨w.heap.size,0,none⟩ = some (.slice a1 c0.S.length n1) := P1.out.box.cell 0 _ rfl
 go_wp2_with fail
 clear q0;obtain ⟨n,hn⟩ : ∃ n,c0.S.length = n := ⟨_,rfl⟩;have HN := hide hn;rw [hn] at P1 hl1 ⊢;clear hn
 go_loopw [13] (fun v13 wr => ∃ (k : Nat) (c : ConfD),v13 = .int .i64 k /\ k <= n /\ Hid (CpS w wr w.heap.size B k 0 w.heap.size B B B c0 c) /\ Hid (c.sv = .slice a1 n n1) /\ Hid (c.S.length = n) /\ Hid (Box2 wr (w.heap.size + 1))) (fun i _ => n - (intOf i).toNat)
 case atStart => exact ⟨0,{ c0 with sv := .slice a1 n n1 },rfl,Nat.zero_le _,P1.out,rfl,HN.out,BX1.out⟩
 case round =>
  obtain ⟨k,c,rfl,hk,hcs,hsv,hcl,hbx⟩ := hrel;have HCS := hide hcs.out;have HSV := hide hsv.out;have HCL := hide hcl.out;have HBX := hide hbx.out;clear hcs hsv hcl hbx P1 BX1;generalize wr = wo at *;by_cases hlt : k < n
  ·have hltz : (k : Int) < n := (by omega);have hwk : IntKind.i64.wrap ((k : Int) + 1) = ((k + 1 : Nat) : Int) := (by rw [IntKind.wrap_i64]; omega);have hki : k < c.S.length := (by rw [HCL.out]; exact hlt);have hown := HCS.out.s;rw [HSV.out,HCL.out] at hown;obtain ⟨g,cp,hg,hcp⟩ := owns_form hown (by omega);cases hg;have hrow := fun (X : World) (hX : Ext wo X) => cell_row encV_len (owns_ext hown hX) k hki 1 c.S[k].kv rfl;have hkk := HCS.out.k k c.S[k] (List.getElem?_eq_getElem hki);rw [if_neg (Nat.lt_irrefl _)] at hkk;have hlk := HCS.out.len.s c.S[k] (List.getElem_mem hki)
   have hcon : ∀ X,Ext wo X -> Calls Tryz.prog 48 #[c.S[k].kv] X fun e w' => ∃ a' c',e = .returned (.slice a' c.S[k].K.length c') /\ w'.ownsRow X.heap.size 9 1 (.slice a' c.S[k].K.length c') c.S[k].K.length (c.S[k].K.flatMap encS) /\ Ext X w' := fun X hX => (clS_any c.S[k].K c.S[k].kv X (owns_ext hkk hX) hlk (ones encS_one _)).mono fun e w' ⟨v',h1,h2,h3⟩ => by
    obtain ⟨a',c',rfl⟩ := owns_shape h2;exact ⟨a',c',h1,h2,h3⟩
   obtain ⟨kv,hkv⟩ : ∃ kv,c.S[k].kv = kv := ⟨_,rfl⟩;rw [hkv] at hrow hcon;have hc0 : ∀ X,Ext wo X -> X.cell? ⟨w.heap.size,0,none⟩ = some (.slice (some ⟨g,0,none⟩) n n1) /\ X.cell? ⟨g,k * 7 + 1,none⟩ = some kv /\ X.frozen? ⟨g,k * 7 + 1,none⟩ = false := fun X hX => ⟨by have := (HCS.out.box.ext hX).cell 0 _ rfl; rw [HSV.out] at this; exact this,hrow X hX⟩;have HC := hide hc0;have HCON := hide hcon;have HOWN := hide hown;have HWK := hide hwk;clear hrow hkk hlk hcon hc0 hown hkv hwk;have q0 := (HC.out wo zb).1
   go_upto_region 5 with (fail)
   clear q0;obtain ⟨KK,hKK⟩ : ∃ KK,c.S[k].K = KK := ⟨_,rfl⟩;rw [hKK] at HCON;have HKK := hide hKK;clear hKK;refine wp_region_rw 87 [9,12] [16,17,18,19,20,21,22,23,24,25,26,27] (PhCl wo g (k * 7 + 1) KK) (fun (t : Nat) (wI : World) (v : Value) => match t with | 16 => v = (.pointer (some ⟨w.heap.size,0,none⟩)) | 17 => v = (.slice (some ⟨g,0,none⟩) n n1) | 18 => v = (.int .i64 k) | 19 => v = (.pointer (some ⟨w.heap.size,0,none⟩)) | 20 => v = (.slice (some ⟨g,0,none⟩) n n1) | 21 => v = (.int .i64 k) | 22 => v = (.pointer (some ⟨g,k * 7,none⟩)) | 23 => v = (.pointer (some ⟨g,k * 7 + 1,none⟩)) | 24 => v = kv | 26 => v = (.pointer (some ⟨g,k * 7,none⟩)) | 27 => v = (.pointer (some ⟨g,k * 7 + 1,none⟩)) | _ => True) (fun _ _ => True) (by kernel_rfl) rfl (by kernel_rfl) (by kernel_rfl) (by kernel_rfl) (by kernel_rfl) ?_ ?_ ?_ ?_ ?_ ?_ ?_
   ·intro w' w'' h;trivial
   ·intro t w' w'' v hR hv;exact hv
   ·intro vs w' w'' h e;exact h.keep e
   ·exact zb.drew
   ·intro i o ho hmi vs X w' hpk hph hX hI hF K hK;have hin : i < 13 := (zg ho);rcases zo hin with rfl | rfl | rfl | rfl | rfl | rfl | rfl | rfl | rfl | rfl | rfl | rfl | rfl
    all_goals first | (exact absurd hmi (by decide)) | (obtain rfl := Option.some.inj ho; unfold wpOp; simp only [ho]; rw [if_pos (by rfl)]; left; rw [frame87])
    ·have e1 : X 1 = (.pointer (some ⟨w.heap.size,0,none⟩)) := zk3 (hF 1);go_simp;refine zm1 hK ((.pointer (some ⟨w.heap.size,0,none⟩))) ?_;simp [frame87,Act.put, *]
    ·have e16 : X 16 = _ := zk2 (hI 16);have hq1 := HC.out _ (hph.x ((hpk 1 (by decide)).2 (by kernel_rfl)));obtain ⟨hq2,hq3,hq4⟩ := hq1;go_simp;refine zm1 hK ((.slice (some ⟨g,0,none⟩) n n1)) ?_;simp [frame87,Act.put, *]
    ·have e3 : X 3 = (.int .i64 k) := zk3 (hF 3);go_simp;refine zm1 hK ((.int .i64 k)) ?_;simp [frame87,Act.put, *]
    ·have e1 : X 1 = (.pointer (some ⟨w.heap.size,0,none⟩)) := zk3 (hF 1);go_simp;refine zm1 hK ((.pointer (some ⟨w.heap.size,0,none⟩))) ?_;simp [frame87,Act.put, *]
    ·have e19 : X 19 = _ := zk2 (hI 19);have hq1 := HC.out _ (hph.x ((hpk 1 (by decide)).2 (by kernel_rfl)));obtain ⟨hq2,hq3,hq4⟩ := hq1;go_simp;refine zm1 hK ((.slice (some ⟨g,0,none⟩) n n1)) ?_;simp [frame87,Act.put, *]
    ·have e3 : X 3 = (.int .i64 k) := zk3 (hF 3);go_simp;refine zm1 hK ((.int .i64 k)) ?_;simp [frame87,Act.put, *]
    ·have e20 : X 20 = _ := zk2 (hI 20);have e21 : X 21 = _ := zk2 (hI 21);go_simp;refine zm1 hK ((.pointer (some ⟨g,k * 7,none⟩))) ?_;simp [frame87,Act.put, *]
    ·have e22 : X 22 = _ := zk2 (hI 22);go_simp;refine zm1 hK ((.pointer (some ⟨g,k * 7 + 1,none⟩))) ?_;simp [frame87,Act.put, *]
    ·have e23 : X 23 = _ := zk2 (hI 23);have hq1 := HC.out _ (hph.x ((hpk 1 (by decide)).2 (by kernel_rfl)));obtain ⟨hq2,hq3,hq4⟩ := hq1;go_simp;refine zm1 hK (kv) ?_;simp [frame87,Act.put, *]
    ·have e17 : X 17 = _ := zk2 (hI 17);have e18 : X 18 = _ := zk2 (hI 18);go_simp;refine zm1 hK ((.pointer (some ⟨g,k * 7,none⟩))) ?_;simp [frame87,Act.put, *]
    ·have e26 : X 26 = _ := zk2 (hI 26);go_simp;refine zm1 hK ((.pointer (some ⟨g,k * 7 + 1,none⟩))) ?_;simp [frame87,Act.put, *]
   ·intro i o ho hmi vs X w' hqi hql hph hX hI hF K hK;rcases vs with _ | ⟨v0,_ | ⟨v1,_⟩⟩
    ·obtain rfl : 9 = i := hqi;obtain rfl := Option.some.inj ho;have e24 : X 24 = _ := zk2 (hI 24);have hx0 : Ext wo w' := hph;unfold wpOp;simp only [ho];rw [if_pos (by rfl)];left;rw [frame87];go_simp;refine (HCON.out w' hx0).mono ?_;rintro e w9 ⟨a',c',rfl,h8,E8⟩;refine metK (hK.out (.slice a' KK.length c') w9 ⟨a',c',rfl,owns_mono h8 hx0.size,hx0.trans E8⟩ trivial) ?_;simp [frame87,Act.put, *]
    ·obtain rfl : 12 = i := hqi;obtain rfl := Option.some.inj ho;have e25 : X 25 = v0 := hX 0 25 (by simp) (by kernel_rfl);have e27 : X 27 = _ := zk2 (hI 27);obtain ⟨a',c',rfl,h8,E8⟩ := hph;obtain ⟨hq2,hq3,hq4⟩ := HC.out _ E8;unfold wpOp;simp only [ho];rw [if_pos (by rfl)];left;rw [frame87];go_simp;refine metK (hK.out undef _ ⟨a',c',w',rfl,h8,E8,zb⟩ trivial) ?_;simp [frame87,Act.put, *]
    ·simp at hql <;> omega
   ·intro vs X w' hlen hph hX hI;have e16 : X 16 = _ := zk4 (hI 16);have e17 : X 17 = _ := zk4 (hI 17);have e18 : X 18 = _ := zk4 (hI 18);have e19 : X 19 = _ := zk4 (hI 19);have e20 : X 20 = _ := zk4 (hI 20);have e21 : X 21 = _ := zk4 (hI 21);have e22 : X 22 = _ := zk4 (hI 22);have e23 : X 23 = _ := zk4 (hI 23);have e24 : X 24 = _ := zk4 (hI 24);have e26 : X 26 = _ := zk4 (hI 26);have e27 : X 27 = _ := zk4 (hI 27);rcases vs with _ | ⟨v0,_ | ⟨v1,_ | ⟨vz,vs⟩⟩⟩
    ·simp at hlen
    ·simp at hlen
    rotate_left
    ·simp at hlen
    have e25 : X 25 = v0 := hX 0 25 (by simp) (by kernel_rfl);clear hX hI hlen;simp only [overF,List.foldl_cons,List.foldl_nil,List.setIfInBounds_toArray,List.set_cons_succ,List.set_cons_zero,e16,e17,e18,e19,e20,e21,e22,e23,e24,e25,e26,e27];obtain ⟨a8,c8,w8,rfl,h8,E8,E9⟩ := hph;have hold := owns_ext HOWN.out E8;have hst := (HCS.out.keep E8).setS HSV.out (Nat.le_refl _) hki (.slice a8 KK.length c8) (by rw [HKK.out]; exact owns_mono h8 HCS.out.ext.size);have hbx := (HBX.out.ext E8).keep (X := fun q => q = g) (Keeps.of_set w8 g (k * 7 + 1) (.slice a8 KK.length c8) rfl) (fun q hq => by subst hq; exact OfT.own hold q rfl) (by decide);have HST := hide (hst.keep E9);have HBY := hide (hbx.ext E9);have hwk := HWK.out;clear hold hst hbx h8 E8 E9 HOWN HC HCON HBX HWK;go_wp2
    go_roundw
    case rel => exact ⟨k + 1,_,by first | rfl | simp,hlt,HST.out,HSV.out,by show (c.S.set k _).length = n; rw [List.length_set]; exact HCL.out,HBY.out⟩
    case measure => simp [intOf]; omega
  ·have hkn : k = n := (by omega);subst hkn;have q1 : wo.cell? ⟨w.heap.size,1,none⟩ = some c.ev := HCS.out.box.cell 1 _ rfl
   have le : c.E.length <= 1000000 := by
    have h : c.core.E = c0.core.E := (by rw [HCS.out.core]);have h' : c.E = c0.E := h;rw [h']; exact HL2.out
   have lr : c.R.length <= 1000000 := by
    have h : c.core.R.length = c0.core.R.length := (by rw [HCS.out.core]);simp only [ConfD.core,List.length_map] at h;rw [h]; exact HL3.out
   have lt : c.T.length <= 1000000 := by
    have h : c.core.T = c0.core.T := (by rw [HCS.out.core]);have h' : c.T = c0.T := h;rw [h']; exact HL4.out
   have LR := hide lr;have LT := hide lt;clear lr lt
   go_wp2_with fail
   refine (clE_any c.E c.ev wo HCS.out.e le (ones encE_one c.E)).mono ?_;rintro e w1 ⟨v1,rfl,h1,E1⟩;clear le q1;obtain ⟨a1',n1',rfl⟩ := owns_shape h1;have k1 := HCS.out.keep E1;have f1 : w1.cell? ⟨w.heap.size,1,none⟩ = some c.ev := k1.box.cell 1 _ rfl;have z1 : w1.frozen? ⟨w.heap.size,1,none⟩ = false := k1.box.frozen 1;have p1 := k1.put (c' := { c with ev := .slice a1' c.E.length n1' }) (be' := w.heap.size) 1 (.slice a1' c.E.length n1') rfl rfl rfl rfl rfl rfl k1.s (owns_mono h1 HCS.out.ext.size) k1.r k1.t;have b1 := (HBX.out.ext E1).set (b' := w.heap.size) (by omega) 1 (.slice a1' c.E.length n1');have P1 := hide p1;have BX1 := hide b1;clear p1 b1 k1 h1 HCS HBX
   go_upto_region 8 with (fail)
   generalize w1.setCell ⟨w.heap.size,1,none⟩ (.slice a1' c.E.length n1') = W1 at P1 BX1 ⊢;clear f1 z1 E1;have q3 : W1.cell? ⟨w.heap.size,3,none⟩ = some c.tv := P1.out.box.cell 3 _ rfl
   go_wp2_with fail
   refine (clT_any c.T c.tv W1 P1.out.t LT.out (ones encT_one c.T)).mono ?_;rintro e w2 ⟨v2,rfl,h2,E2⟩;clear q3;obtain ⟨a2',n2',rfl⟩ := owns_shape h2;have k2 := P1.out.keep E2;have f2 : w2.cell? ⟨w.heap.size,3,none⟩ = some c.tv := k2.box.cell 3 _ rfl;have z2 : w2.frozen? ⟨w.heap.size,3,none⟩ = false := k2.box.frozen 3;have p2 := k2.put (c' := { c with ev := .slice a1' c.E.length n1',tv := .slice a2' c.T.length n2' }) (bt' := w.heap.size) 3 (.slice a2' c.T.length n2') rfl rfl rfl rfl rfl rfl k2.s k2.e k2.r (owns_mono h2 P1.out.ext.size);have b2 := (BX1.out.ext E2).set (b' := w.heap.size) (by omega) 3 (.slice a2' c.T.length n2');have P2 := hide p2;have BX2 := hide b2;clear p2 b2 k2 h2 P1 BX1
   go_upto_region 9 with (fail)
   generalize w2.setCell ⟨w.heap.size,3,none⟩ (.slice a2' c.T.length n2') = W2 at P2 BX2 ⊢;clear f2 z2 E2;have q2 : W2.cell? ⟨w.heap.size,2,none⟩ = some c.rv := P2.out.box.cell 2 _ rfl
   go_wp2_with fail
   refine (clR_any c.R c.rv W2 P2.out.r LR.out (ones_R (fun i r hr => by have := P2.out.rr i r hr; rw [if_neg (Nat.not_lt_zero _)] at this; exact this))).mono ?_;rintro e w3 ⟨v3,rfl,h3,E3⟩;clear q2;obtain ⟨a3',n3',rfl⟩ := owns_shape h3;have k3 := P2.out.keep E3;have f3 : w3.cell? ⟨w.heap.size,2,none⟩ = some c.rv := k3.box.cell 2 _ rfl;have z3 : w3.frozen? ⟨w.heap.size,2,none⟩ = false := k3.box.frozen 2;have p3 := k3.put (c' := { c with ev := .slice a1' c.E.length n1',tv := .slice a2' c.T.length n2',rv := .slice a3' c.R.length n3' }) (br' := w.heap.size) 2 (.slice a3' c.R.length n3') rfl rfl rfl rfl rfl rfl k3.s k3.e (owns_mono h3 P2.out.ext.size) k3.t;have b3 := (BX2.out.ext E3).set (b' := w.heap.size) (by omega) 2 (.slice a3' c.R.length n3');have P3 := hide p3;have BX3 := hide b3;clear p3 b3 k3 h3 P2 BX2
   go_upto_region 10 with (fail)
   generalize w3.setCell ⟨w.heap.size,2,none⟩ (.slice a3' c.R.length n3') = W3 at P3 BX3 ⊢;clear f3 z3 E3;obtain ⟨cc,hcc⟩ : ∃ cc : ConfD,({ c with ev := .slice a1' c.E.length n1',tv := .slice a2' c.T.length n2',rv := .slice a3' c.R.length n3' } : ConfD) = cc := ⟨_,rfl⟩;have hcv : cc.rv = .slice a3' c.R.length n3' := (by rw [<- hcc]);have hcl : cc.R.length = c.R.length := (by rw [<- hcc]);rw [hcc] at P3;have HCV := hide hcv;have HCL2 := hide hcl;have q2 : W3.cell? ⟨w.heap.size,2,none⟩ = some (.slice a3' c.R.length n3') := (by rw [<- hcv]; exact P3.out.box.cell 2 _ rfl);clear hcc hcv hcl
   go_wp2_with fail
   clear q2;obtain ⟨m,hm⟩ : ∃ m,c.R.length = m := ⟨_,rfl⟩;rw [hm] at HCV HCL2 LR ⊢;clear hm
   go_loopw [44] (fun v44 wr => ∃ (j : Nat) (d : ConfD),v44 = .int .i64 j /\ j <= m /\ Hid (CpS w wr w.heap.size B k j w.heap.size w.heap.size w.heap.size w.heap.size c0 d) /\ Hid (d.rv = .slice a3' m n3') /\ Hid (d.R.length = m) /\ Hid (Box2 wr (w.heap.size + 1))) (fun i _ => m - (intOf i).toNat)
   case atStart => exact ⟨0,cc,rfl,Nat.zero_le _,P3.out,HCV.out,HCL2.out,BX3.out⟩
   case round =>
    clear P3 HCV HCL2 BX3;obtain ⟨j,d,rfl,hj,hcs,hrv,hrl,hbx⟩ := hrel;have HCS := hide hcs.out;have HRV := hide hrv.out;have HRL := hide hrl.out;have HBX := hide hbx.out;clear hcs hrv hrl hbx;generalize wr = wo at *;by_cases hlt2 : j < m
    ·have h0z : 0 <= j := Nat.zero_le _;have hltz : (j : Int) < m := (by omega);have hwk : IntKind.i64.wrap ((j : Int) + 1) = ((j + 1 : Nat) : Int) := (by have := LR.out; rw [IntKind.wrap_i64]; omega);have HWK := hide hwk;clear hwk;have hji : j < d.R.length := (by rw [HRL.out]; exact hlt2);have hown := HCS.out.r;rw [HRV.out,HRL.out] at hown;obtain ⟨g,cp,hg,hcp⟩ := owns_form hown (by omega);cases hg;clear hown;obtain ⟨r,hr⟩ : ∃ r,d.R[j]? = some r := ⟨_,List.getElem?_eq_getElem hji⟩;have hro := HCS.out.rr j r hr;rw [if_neg (Nat.lt_irrefl _)] at hro;obtain ⟨l1,l2,l3,l4⟩ := HCS.out.len.r r (List.mem_of_getElem? hr);obtain ⟨path,ex,hv,H,pv,P,mi,ab,de,ti,pre,sv,S,dv,D,q0,q1,q2,q3,q4,q5,q6,rate⟩ := r;have L1 := hide l1;have L2 := hide l2;have L3 := hide l3;have L4 := hide l4;have HR0 := hide hr;have HO0 := hide hro;clear l1 l2 l3 l4 hr hro hji;have q2 : wo.cell? ⟨w.heap.size,2,none⟩ = some (.slice (some ⟨g,0,none⟩) m n3') := by rw [<- HRV.out]; exact HCS.out.box.cell 2 _ rfl
     go_upto_region 14 with (fail)
     clear q2;have HCS0 := HCS;have HRV0 := HRV;have HBX0 := HBX;have HRL0 := HRL;clear HCS HRV HBX HRL;generalize wo = Y0 at *;generalize d = d0 at *;have cq := (HCS0.out.cellR HRV0.out HR0.out 2 hv rfl).1
     go_wp2_with fail
     refine (clH_any H hv Y0 (HO0.out.1) L1.out (ones encH_one H)).mono ?_;rintro e w1 ⟨v1,rfl,h1,E1⟩;clear cq;obtain ⟨a4,n4,rfl⟩ := owns_shape h1;obtain ⟨cq,cz⟩ := (HCS0.out.keep E1).cellR HRV0.out HR0.out 2 hv rfl;have hro1 : RuleOwn B w1 (⟨path,ex,.slice a4 H.length n4,H,pv,P,mi,ab,de,ti,pre,sv,S,dv,D,q0,q1,q2,q3,q4,q5,q6,rate⟩ : RuleD) := ⟨owns_mono h1 (Nat.le_trans hB HCS0.out.ext.size),owns_ext (HO0.out.2.1) E1,owns_ext (HO0.out.2.2.1) E1,owns_ext (HO0.out.2.2.2) E1⟩;obtain ⟨d1,s1,s2,s3,s4,s5,s6⟩ := HCS0.out.stepR HRV0.out (Nat.le_refl _) HR0.out E1 (⟨path,ex,.slice a4 H.length n4,H,pv,P,mi,ab,de,ti,pre,sv,S,dv,D,q0,q1,q2,q3,q4,q5,q6,rate⟩ : RuleD) 2 (by decide) (.slice a4 H.length n4) rfl rfl hro1;have HCS1 := hide s1;have HRV1 := hide (s2.trans HRV0.out);have HRL1 := hide (s3.trans HRL0.out);have HR1 := hide s4;have HO1 := hide (hro1.keepT s5 s6 (by decide) (by decide) (by decide));have HBX1 := hide ((HBX0.out.ext E1).keep s5 s6 (by decide));have F1 := hide (owns_keepT (owns_mono h1 HCS0.out.ext.size) s5 s6 (by decide));clear s1 s2 s3 s4 s5 s6 hro1 h1 HCS0 HRV0 HRL0 HR0 HO0 HBX0
     go_upto_region 15 with (fail)
     generalize w1.setCell ⟨g,j * 19 + 2,none⟩ (.slice a4 H.length n4) = Y1 at HCS1 HO1 HBX1 F1 ⊢;clear cq cz E1;have cq := (HCS1.out.cellR HRV1.out HR1.out 3 pv rfl).1
     go_wp2_with fail
     refine (clP_any P pv Y1 (HO1.out.2.1) L2.out (ones encP_one P)).mono ?_;rintro e w1 ⟨v1,rfl,h1,E1⟩;clear cq;obtain ⟨a5,n5,rfl⟩ := owns_shape h1;obtain ⟨cq,cz⟩ := (HCS1.out.keep E1).cellR HRV1.out HR1.out 3 pv rfl;have hro1 : RuleOwn B w1 (⟨path,ex,.slice a4 H.length n4,H,.slice a5 P.length n5,P,mi,ab,de,ti,pre,sv,S,dv,D,q0,q1,q2,q3,q4,q5,q6,rate⟩ : RuleD) := ⟨owns_ext (HO1.out.1) E1,owns_mono h1 (Nat.le_trans hB HCS1.out.ext.size),owns_ext (HO1.out.2.2.1) E1,owns_ext (HO1.out.2.2.2) E1⟩;obtain ⟨d2,s1,s2,s3,s4,s5,s6⟩ := HCS1.out.stepR HRV1.out (Nat.le_refl _) HR1.out E1 (⟨path,ex,.slice a4 H.length n4,H,.slice a5 P.length n5,P,mi,ab,de,ti,pre,sv,S,dv,D,q0,q1,q2,q3,q4,q5,q6,rate⟩ : RuleD) 3 (by decide) (.slice a5 P.length n5) rfl rfl hro1;have HCS2 := hide s1;have HRV2 := hide (s2.trans HRV1.out);have HRL2 := hide (s3.trans HRL1.out);have HR2 := hide s4;have HO2 := hide (hro1.keepT s5 s6 (by decide) (by decide) (by decide));have HBX2 := hide ((HBX1.out.ext E1).keep s5 s6 (by decide));have F2 := hide (owns_keepT (owns_mono h1 HCS1.out.ext.size) s5 s6 (by decide));have F1 := hide (owns_keepT (owns_ext F1.out E1) s5 s6 (by decide));clear s1 s2 s3 s4 s5 s6 hro1 h1 HCS1 HRV1 HRL1 HR1 HO1 HBX1
     go_upto_region 16 with (fail)
     generalize w1.setCell ⟨g,j * 19 + 3,none⟩ (.slice a5 P.length n5) = Y2 at HCS2 HO2 HBX2 F1 F2 ⊢;clear cq cz E1;have cq := (HCS2.out.cellR HRV2.out HR2.out 9 sv rfl).1
     go_wp2_with fail
     refine (clH_any S sv Y2 (HO2.out.2.2.1) L3.out (ones encH_one S)).mono ?_;rintro e w1 ⟨v1,rfl,h1,E1⟩;clear cq;obtain ⟨a6,n6,rfl⟩ := owns_shape h1;obtain ⟨cq,cz⟩ := (HCS2.out.keep E1).cellR HRV2.out HR2.out 9 sv rfl;have hro1 : RuleOwn B w1 (⟨path,ex,.slice a4 H.length n4,H,.slice a5 P.length n5,P,mi,ab,de,ti,pre,.slice a6 S.length n6,S,dv,D,q0,q1,q2,q3,q4,q5,q6,rate⟩ : RuleD) := ⟨owns_ext (HO2.out.1) E1,owns_ext (HO2.out.2.1) E1,owns_mono h1 (Nat.le_trans hB HCS2.out.ext.size),owns_ext (HO2.out.2.2.2) E1⟩;obtain ⟨d3,s1,s2,s3,s4,s5,s6⟩ := HCS2.out.stepR HRV2.out (Nat.le_refl _) HR2.out E1 (⟨path,ex,.slice a4 H.length n4,H,.slice a5 P.length n5,P,mi,ab,de,ti,pre,.slice a6 S.length n6,S,dv,D,q0,q1,q2,q3,q4,q5,q6,rate⟩ : RuleD) 9 (by decide) (.slice a6 S.length n6) rfl rfl hro1;have HCS3 := hide s1;have HRV3 := hide (s2.trans HRV2.out);have HRL3 := hide (s3.trans HRL2.out);have HR3 := hide s4;have HO3 := hide (hro1.keepT s5 s6 (by decide) (by decide) (by decide));have HBX3 := hide ((HBX2.out.ext E1).keep s5 s6 (by decide));have F3 := hide (owns_keepT (owns_mono h1 HCS2.out.ext.size) s5 s6 (by decide));have F1 := hide (owns_keepT (owns_ext F1.out E1) s5 s6 (by decide));have F2 := hide (owns_keepT (owns_ext F2.out E1) s5 s6 (by decide));clear s1 s2 s3 s4 s5 s6 hro1 h1 HCS2 HRV2 HRL2 HR2 HO2 HBX2
     go_upto_region 17 with (fail)
     generalize w1.setCell ⟨g,j * 19 + 9,none⟩ (.slice a6 S.length n6) = Y3 at HCS3 HO3 HBX3 F1 F2 F3 ⊢;clear cq cz E1;have cq := (HCS3.out.cellR HRV3.out HR3.out 10 dv rfl).1
     go_wp2_with fail
     refine (clS_any D dv Y3 (HO3.out.2.2.2) L4.out (ones encS_one D)).mono ?_;rintro e w1 ⟨v1,rfl,h1,E1⟩;clear cq;obtain ⟨a7,n7,rfl⟩ := owns_shape h1;obtain ⟨cq,cz⟩ := (HCS3.out.keep E1).cellR HRV3.out HR3.out 10 dv rfl;have hro1 : RuleOwn B w1 (⟨path,ex,.slice a4 H.length n4,H,.slice a5 P.length n5,P,mi,ab,de,ti,pre,.slice a6 S.length n6,S,.slice a7 D.length n7,D,q0,q1,q2,q3,q4,q5,q6,rate⟩ : RuleD) := ⟨owns_ext (HO3.out.1) E1,owns_ext (HO3.out.2.1) E1,owns_ext (HO3.out.2.2.1) E1,owns_mono h1 (Nat.le_trans hB HCS3.out.ext.size)⟩;obtain ⟨d4,s1,s2,s3,s4,s5,s6⟩ := HCS3.out.stepR HRV3.out (Nat.le_refl _) HR3.out E1 (⟨path,ex,.slice a4 H.length n4,H,.slice a5 P.length n5,P,mi,ab,de,ti,pre,.slice a6 S.length n6,S,.slice a7 D.length n7,D,q0,q1,q2,q3,q4,q5,q6,rate⟩ : RuleD) 10 (by decide) (.slice a7 D.length n7) rfl rfl hro1;have HCS4 := hide s1;have HRV4 := hide (s2.trans HRV3.out);have HRL4 := hide (s3.trans HRL3.out);have HR4 := hide s4;have HO4 := hide (hro1.keepT s5 s6 (by decide) (by decide) (by decide));have HBX4 := hide ((HBX3.out.ext E1).keep s5 s6 (by decide));have F4 := hide (owns_keepT (owns_mono h1 HCS3.out.ext.size) s5 s6 (by decide));have F1 := hide (owns_keepT (owns_ext F1.out E1) s5 s6 (by decide));have F2 := hide (owns_keepT (owns_ext F2.out E1) s5 s6 (by decide));have F3 := hide (owns_keepT (owns_ext F3.out E1) s5 s6 (by decide));clear s1 s2 s3 s4 s5 s6 hro1 h1 HCS3 HRV3 HRL3 HR3 HO3 HBX3
     go_upto_region 18 with (fail)
     generalize w1.setCell ⟨g,j * 19 + 10,none⟩ (.slice a7 D.length n7) = Y4 at HCS4 HO4 HBX4 F1 F2 F3 F4 ⊢;clear cq cz E1
     have hrise := HCS4.out.rise (fun r hr => by
      rw [HR4.out] at hr;cases hr
      exact ⟨F1.out,F2.out,F3.out,F4.out⟩)
     have HRISE := hide hrise;have hwk := HWK.out;clear hrise HWK F1 F2 F3 F4 HO4 HR4 HCS4;go_wp2
     go_roundw
     case rel => exact ⟨j + 1,d4,by first | rfl | simp,hlt2,HRISE.out,HRV4.out,HRL4.out,HBX4.out⟩
     case measure => simp [intOf]; omega
    ·have hjm : j = m := (by omega);subst hjm
     have hk0 : k = d.S.length := by
      have h : d.core.S.length = c0.core.S.length := (by rw [HCS.out.core]);simp only [ConfD.core,List.length_map] at h;rw [h,HN.out]
     have hown : ConfOwn w.heap.size wo d := ⟨HCS.out.s,fun s hs => by
      obtain ⟨i,hi,rfl⟩ := List.getElem_of_mem hs;have := HCS.out.k i d.S[i] (List.getElem?_eq_getElem hi);rw [if_pos (by omega)] at this;exact this,HCS.out.e,HCS.out.r,fun r hr => by
      obtain ⟨i,hi,rfl⟩ := List.getElem_of_mem hr;have := HCS.out.rr i d.R[i] (List.getElem?_eq_getElem hi);rw [if_pos (by have := HRL.out; omega)] at this
      exact this,HCS.out.t⟩
     have HC := hide hown;clear hown hk0;obtain ⟨cd,hcd1,hcd2⟩ := Tryz.confDesc
     go_upto_region 19 with (fail)
     refine wp_region_lit ?_;refine wpList_load_mid rfl 30 (.tmp 1) rfl w.heap.size 0 rfl (encC d) cd HCS.out.box.range hcd1 hcd2 Tryz.confSize ?_;obtain ⟨cz,hz1,hz2⟩ := HBX.out
     have hth : wo.there (w.heap.size + 1) 0 20 := fun q hq => by
      rw [Nat.zero_add];refine ⟨?_,by simp [World.frozen?,hz1]⟩;simp only [World.cell?,hz1];simp [hz2,hq]
     refine wpList_store_mid rfl 30 (.tmp 2) (.tmp 86) rfl (w.heap.size + 1) 0 (encC d).toArray rfl rfl hth Tryz.confSize (all_oneCell_toArray (encC_one' HC.out)) ?_;refine wpList_nil ?_;have hrs := World.rangeAt_setCells_same wo (w.heap.size + 1) 0 (encC d) hth;have hk5 := keeps_setCells (w.heap.size + 1) (encC d) 0 wo;show Exit.then _ _ _ _ (wo.setCells (w.heap.size + 1) 0 (encC d));generalize wo.setCells (w.heap.size + 1) 0 (encC d) = W10 at hrs hk5 ⊢;have HEF := hide (Keeps.ext HCS.out.ext hk5 (fun g hg => by omega));have HOF := hide (HC.out.keepT hk5 (OfT.one hz1) (by decide) (by decide) (by decide) (by decide) (by decide) (by decide) (by decide));have HRG := hide hrs;have HCO := hide HCS.out.core;clear hrs hk5 hth hz1 HCS HBX;simp only [Act.put]
     go_wp2_with (fail)
     (try simp only [Exit.inBlock,Exit.then])
     refine bodyPost_ret (results_cell_mid rfl _ _ (w.heap.size + 1) 0 (encC d) cd rfl HRG.out hcd1 hcd2 Tryz.confSize) rfl ?_;exact ⟨d,rfl,HCO.out,HOF.out,HEF.out⟩
end Go.Proofs.YtoaiakhnnfbkdaaGreatDoor
