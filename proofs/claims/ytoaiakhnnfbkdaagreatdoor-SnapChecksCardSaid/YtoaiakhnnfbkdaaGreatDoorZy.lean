/- Lemmas. -/
import Derived.Deep.AppendLies
import Derived.Test.YtoaiakhnnfbkdaaGreatDoorSyG
import Derived.Laws.StructEq
set_option maxRecDepth 100000
set_option maxHeartbeats 32000000
namespace Go.Proofs.YtoaiakhnnfbkdaaGreatDoor
open Go.ChangeShapes Go.WideShapes Go.ChangeAt Go.RowKit Go.Lib Go.Shelf
theorem ends_at {w : World} {a : Option Addr} {n cap : Nat} {xs : List EndD} (h : Ends w (.slice a n cap) xs) (i : Nat) (hi : i < xs.length) :
  ∃ b off,a = some ⟨b,off,none⟩ /\ b < w.heap.size /\ w.cell? ⟨b,off + i * 3,none⟩ = some (.int .i64 xs[i].id) /\ w.cell? ⟨b,off + i * 3 + 1,none⟩ = some (.int .i64 xs[i].svc) /\ w.cell? ⟨b,off + i * 3 + 2,none⟩ = some (.int .i64 xs[i].zone) := by
 obtain ⟨_,a',cap',hv,_,hc⟩ := h;cases hv;obtain ⟨b,off,ha,hb,hc⟩ := hc i xs[i] (List.getElem?_eq_getElem hi);exact ⟨b,off,ha,hb,by simpa using hc 0 _ rfl,by simpa using hc 1 _ rfl,by simpa using hc 2 _ rfl⟩
theorem infoI' : (Tryz.prog.info? 3).map (fun i => (i.zero,i.size,i.bytes)) = some (some (.int .i64 0),1,8) := by kernel_rfl
theorem infoE' : (Tryz.prog.info? 53).map (fun i => (i.zero,i.size,i.bytes)) = some (some (.agg #[.int .i64 0,.int .i64 0,.int .i64 0]),3,24) := by kernel_rfl
theorem info_z' {P : Program} {t : TypeId} {z : Value} {s b : Nat} (h : (P.info? t).map (fun i => (i.zero,i.size,i.bytes)) = some (some z,s,b)) : ∃ i,P.info? t = some i /\ i.zero = some z /\ i.size = s /\ i.bytes = b := by
 cases hi : P.info? t with
 | none => rw [hi] at h; cases h
 | some i =>
  rw [hi] at h;simp only [Option.map_some,Option.some.injEq,Prod.mk.injEq] at h;exact ⟨i,rfl,h.1,h.2.1,h.2.2⟩
theorem ext_app {w wr w1 : World} {os : World} {e : TypeId} {size n : Nat} {v : Value} {xs : List Value} (hx : Ext w wr) (h1 : Ext wr os) (hown : wr.ownsRow w.heap.size e size v n xs) (hg : os.grownBy w1 v.ownBlock) : Ext w w1 :=
 (hx.trans h1).grown hg (by have := (hx.trans h1).size; exact this) (fun k hk => (hown.lt k hk).1)
theorem ids_any (E : List EndD) (v : Value) (w : World) (hs : Ends w v E) (hl : E.length <= 1000000) :
  Calls Tryz.prog 24 #[v] w fun e w' => ∃ v',e = .returned v' /\ w'.ownsRow w.heap.size 3 1 v' E.length ((E.map EndD.id).flatMap encI) /\ Ext w w' := by
 obtain ⟨hl',a,cap,rfl⟩ := hs.shape;obtain ⟨i0,hi,hz0,hz1,hz2⟩ := info_z' infoI';have HC := hide hs;clear hs
 go_enter Tryz.func24,Tryz.ntmps24
 go_wp2
 go_loopw [3,8] (fun v i wr => ∃ k : Nat,k <= E.length /\ i = .int .i64 k /\ wr.ownsRow w.heap.size 3 1 v k (((E.take k).map EndD.id).flatMap encI) /\ Ext w wr) (fun _ i _ => E.length - (intOf i).toNat)
 case atStart => exact ⟨0,Nat.zero_le _,rfl,⟨by simp,.inl ⟨rfl,rfl⟩⟩,zb⟩
 case round =>
  obtain ⟨k,hk,rfl,hown,hext⟩ := hrel;by_cases hlt : k < E.length
  ·have hltz : (k : Int) < E.length := (by omega);have hwk : IntKind.i64.wrap ((k : Int) + 1) = ((k + 1 : Nat) : Int) := (by rw [IntKind.wrap_i64]; omega);obtain ⟨b,off,rfl,hbb,c1,c2,c3⟩ := ends_at (HC.out.ext hext) k hlt;have hsn : (((E.take (k + 1)).map EndD.id).flatMap encI) = (((E.take k).map EndD.id).flatMap encI) ++ [.int .i64 E[k].id] := (by rw [take_snoc E k hlt,List.map_append,List.flatMap_append]; rfl);generalize E[k] = x at c1 c2 c3 hsn;obtain ⟨x1,x2,x3⟩ := x;simp only [] at c1 c2 c3 hsn;have hsz := hext.size;have HSN := hide hsn;have HX := hide hext;clear hsn hext
   go_wp2_with (at_builtin; refine wpList_append_own _ (by rfl) _ _ 22 (by rfl) w.heap.size 3 i0 (.int .i64 0) 1 8 Tryz.underlying22 hi hz0 hz1 hz2 rfl (by decide) _ k _ (by rfl) ((hown.alloc _).alloc _) ⟨wr.heap.size + 1,0,none⟩ 1 1 [.int .i64 x1] (by rfl) (by rfl) (by first | (have := cells_new (wr.alloc (.cells #[.int .i64 x1,.int .i64 x2,.int .i64 x3] 53)) [.int .i64 x1] 3; simpa using this)) (by simp [Value.oneCell']) (by unfold maxLen; omega) (by omega) (by simp; omega) ?_; intro v2 w2 hown2 hgrow2 _)
   go_roundw
   case rel => exact ⟨k + 1,hlt,by go_num,by rw [HSN.out]; exact hown2,ext_app HX.out (za.alloc (Nat.le_of_lt (by simp)) _) hown hgrow2⟩
   case measure => simp [intOf]; omega
  ·obtain rfl : k = E.length := (by omega);rw [List.take_length] at hown;go_wp2;go_ret;exact ⟨_,rfl,hown,hext⟩
theorem toldH_any (E : List EndD) (p : EndD -> Bool) (q : Int) (v : Value) (w : World) (hs : Ends w v E) (hl : E.length <= 40)
  (hp : ∀ X x,Ext w X -> Calls Tryz.prog 63 #[.int .i64 q,.agg #[.int .i64 x.id,.int .i64 x.svc,.int .i64 x.zone]] X fun e w' => e = .returned (.bool (p x)) /\ Ext X w') :
  Calls Tryz.prog 62 #[v,.func (.func 63) #[.int .i64 q] #[]] w fun e w' => ∃ (v' : Value) (s : List EndD),e = .returned v' /\ s.Perm (E.filter p) /\ s.Pairwise (fun x y => x.id <= y.id) /\ w'.ownsRow w.heap.size 53 3 v' s.length (s.flatMap encE) /\ Ext w w' := by
 obtain ⟨hl',a,cap,rfl⟩ := hs.shape;obtain ⟨i0,hi,hz0,hz1,hz2⟩ := info_z' infoE';have HC := hide hs;have HP := hide hp;clear hs hp
 go_enter Tryz.func62,Tryz.ntmps62
 go_wp2
 go_loopw [5,10] (fun v i wr => ∃ k : Nat,k <= E.length /\ i = .int .i64 k /\ wr.ownsRow w.heap.size 53 3 v ((E.take k).filter p).length (((E.take k).filter p).flatMap encE) /\ Ext w wr) (fun _ i _ => E.length - (intOf i).toNat)
 case atStart => exact ⟨0,Nat.zero_le _,rfl,⟨by simp,.inl ⟨rfl,rfl⟩⟩,zb⟩
 case round =>
  obtain ⟨k,hk,rfl,hown,hext⟩ := hrel;generalize wr = wo at *;by_cases hlt : k < E.length
  ·have hltz : (k : Int) < E.length := (by omega);have hwk : IntKind.i64.wrap ((k : Int) + 1) = ((k + 1 : Nat) : Int) := (by rw [IntKind.wrap_i64]; omega);obtain ⟨b,off,rfl,hbb,c1,c2,c3⟩ := ends_at (HC.out.ext hext) k hlt;have hpx := HP.out
   have hsn : (E.take (k + 1)).filter p = if p E[k] = true then (E.take k).filter p ++ [E[k]] else (E.take k).filter p := by
    rw [take_snoc E k hlt,List.filter_append];split <;> simp [*]
   generalize E[k] = x at c1 c2 c3 hsn;have hx := fun X hX => hpx X x hX;obtain ⟨pv,hpv⟩ : ∃ b,p x = b := ⟨_,rfl⟩;simp only [hpv] at hx hsn;obtain ⟨x1,x2,x3⟩ := x;simp only [] at c1 c2 c3 hx;have hfl : ((E.take k).filter p).length <= 40 := Nat.le_trans (List.length_filter_le _ _) (by rw [List.length_take]; omega);generalize (E.take k).filter p = F at hown hsn hfl;have hsz := hext.size;have ha : Ext wo (wo.alloc (.cells #[.int .i64 x1,.int .i64 x2,.int .i64 x3] 53)) := za;have hb0 := heap_alloc_new wo (.cells #[.int .i64 x1,.int .i64 x2,.int .i64 x3] 53);have HB0 := hide hb0;have HA := hide ha;have HX := hide hext;have HQ := hide hx;have HSN := hide hsn;have HOWN := hide (owns_ext hown ha);clear hpx hx hsn hext hb0 ha
   cases pv with
   | false =>
    go_wp2_with fail
    refine (HQ.out _ (HX.out.trans HA.out)).mono ?_;rintro e w8 ⟨rfl,E8⟩;have hr := owns_ext HOWN.out E8;have HR := hide hr;have HE := hide ((HX.out.trans HA.out).trans E8);clear hr E8;go_wp2
    go_roundw
    case rel => exact ⟨k + 1,hlt,by go_num,by rw [HSN.out,if_neg (by decide)]; exact HR.out,HE.out⟩
    case measure => simp [intOf]; omega
   | true =>
    go_wp2_with fail
    refine (HQ.out _ (HX.out.trans HA.out)).mono ?_;rintro e w8 ⟨rfl,E8⟩;have hr := owns_ext HOWN.out E8;have HE := hide ((HX.out.trans HA.out).trans E8);have hb8 := (E8.block wo.heap.size (by simp)).trans HB0.out;have d1 : w8.cell? ⟨wo.heap.size,0,none⟩ = some (.int .i64 x1) := (by simp [World.cell?,hb8]);have d2 : w8.cell? ⟨wo.heap.size,1,none⟩ = some (.int .i64 x2) := (by simp [World.cell?,hb8]);have d3 : w8.cell? ⟨wo.heap.size,2,none⟩ = some (.int .i64 x3) := (by simp [World.cell?,hb8]);have hs8 := HE.out.size;have hc8 := World.news_of_block (cs := #[.int .i64 x1,.int .i64 x2,.int .i64 x3]) (t := 53) (fr := (0,0)) (heap_alloc_new w8 (.cells #[.int .i64 x1,.int .i64 x2,.int .i64 x3] 53));clear E8 hb8 HOWN hown
    go_wp2_with (at_builtin; refine wpList_append_own _ (by rfl) _ _ 24 (by rfl) w.heap.size 53 i0 _ 3 24 Tryz.underlying24 hi hz0 hz1 hz2 rfl (by decide) _ F.length _ (by rfl) (hr.alloc _) ⟨w8.heap.size,0,none⟩ 1 1 [.int .i64 x1,.int .i64 x2,.int .i64 x3] (by rfl) (by rfl) hc8 (by simp [Value.oneCell']) (by unfold maxLen; omega) (by omega) (by simp; omega) ?_; intro v2 w2 hown2 hgrow2 _)
    go_roundw
    case rel => exact ⟨k + 1,hlt,by go_num,by (rw [HSN.out]; first | rw [if_pos rfl] | rw [if_pos trivial]); rw [List.length_append,List.flatMap_append]; exact hown2,ext_app HE.out za hr hgrow2⟩
    case measure => simp [intOf]; omega
  ·obtain rfl : k = E.length := (by omega);rw [List.take_length] at hown;have hfl : (E.filter p).length <= 40 := Nat.le_trans (List.length_filter_le _ _) hl;have hx := hext
   go_wp2_with fail
   refine (ssortE40_any wo hown hfl hext.size).mono ?_;rintro e w2 ⟨rfl,s,hs1,hs2,hs3,hs4⟩;have hsl : s.length = (E.filter p).length := hs1.length_eq;rw [<- hsl] at hs3;have hE := Below.trans hext hs4
   go_wp2_with fail
   go_ret;exact ⟨_,s,rfl,hs1,hs2,hs3,hE⟩
theorem toldL_any (E : List EndD) (p : EndD -> Bool) (q : Nat) (v : Value) (w : World) (hs : Ends w v E) (hl : E.length <= 40)
  (hp : ∀ X x,Ext w X -> Calls Tryz.prog 68 #[.pointer (some ⟨q,0,none⟩),.agg #[.int .i64 x.id,.int .i64 x.svc,.int .i64 x.zone]] X fun e w' => e = .returned (.bool (p x)) /\ Ext X w') :
  Calls Tryz.prog 62 #[v,.func (.func 68) #[.pointer (some ⟨q,0,none⟩)] #[]] w fun e w' => ∃ (v' : Value) (s : List EndD),e = .returned v' /\ s.Perm (E.filter p) /\ s.Pairwise (fun x y => x.id <= y.id) /\ w'.ownsRow w.heap.size 53 3 v' s.length (s.flatMap encE) /\ Ext w w' := by
 obtain ⟨hl',a,cap,rfl⟩ := hs.shape;obtain ⟨i0,hi,hz0,hz1,hz2⟩ := info_z' infoE';have HC := hide hs;have HP := hide hp;clear hs hp
 go_enter Tryz.func62,Tryz.ntmps62
 go_wp2
 go_loopw [5,10] (fun v i wr => ∃ k : Nat,k <= E.length /\ i = .int .i64 k /\ wr.ownsRow w.heap.size 53 3 v ((E.take k).filter p).length (((E.take k).filter p).flatMap encE) /\ Ext w wr) (fun _ i _ => E.length - (intOf i).toNat)
 case atStart => exact ⟨0,Nat.zero_le _,rfl,⟨by simp,.inl ⟨rfl,rfl⟩⟩,zb⟩
 case round =>
  obtain ⟨k,hk,rfl,hown,hext⟩ := hrel;generalize wr = wo at *;by_cases hlt : k < E.length
  ·have hltz : (k : Int) < E.length := (by omega);have hwk : IntKind.i64.wrap ((k : Int) + 1) = ((k + 1 : Nat) : Int) := (by rw [IntKind.wrap_i64]; omega);obtain ⟨b,off,rfl,hbb,c1,c2,c3⟩ := ends_at (HC.out.ext hext) k hlt;have hpx := HP.out
   have hsn : (E.take (k + 1)).filter p = if p E[k] = true then (E.take k).filter p ++ [E[k]] else (E.take k).filter p := by
    rw [take_snoc E k hlt,List.filter_append];split <;> simp [*]
   generalize E[k] = x at c1 c2 c3 hsn;have hx := fun X hX => hpx X x hX;obtain ⟨pv,hpv⟩ : ∃ b,p x = b := ⟨_,rfl⟩;simp only [hpv] at hx hsn;obtain ⟨x1,x2,x3⟩ := x;simp only [] at c1 c2 c3 hx;have hfl : ((E.take k).filter p).length <= 40 := Nat.le_trans (List.length_filter_le _ _) (by rw [List.length_take]; omega);generalize (E.take k).filter p = F at hown hsn hfl;have hsz := hext.size;have ha : Ext wo (wo.alloc (.cells #[.int .i64 x1,.int .i64 x2,.int .i64 x3] 53)) := za;have hb0 := heap_alloc_new wo (.cells #[.int .i64 x1,.int .i64 x2,.int .i64 x3] 53);have HB0 := hide hb0;have HA := hide ha;have HX := hide hext;have HQ := hide hx;have HSN := hide hsn;have HOWN := hide (owns_ext hown ha);clear hpx hx hsn hext hb0 ha
   cases pv with
   | false =>
    go_wp2_with fail
    refine (HQ.out _ (HX.out.trans HA.out)).mono ?_;rintro e w8 ⟨rfl,E8⟩;have hr := owns_ext HOWN.out E8;have HR := hide hr;have HE := hide ((HX.out.trans HA.out).trans E8);clear hr E8;go_wp2
    go_roundw
    case rel => exact ⟨k + 1,hlt,by go_num,by rw [HSN.out,if_neg (by decide)]; exact HR.out,HE.out⟩
    case measure => simp [intOf]; omega
   | true =>
    go_wp2_with fail
    refine (HQ.out _ (HX.out.trans HA.out)).mono ?_;rintro e w8 ⟨rfl,E8⟩;have hr := owns_ext HOWN.out E8;have HE := hide ((HX.out.trans HA.out).trans E8);have hb8 := (E8.block wo.heap.size (by simp)).trans HB0.out;have d1 : w8.cell? ⟨wo.heap.size,0,none⟩ = some (.int .i64 x1) := (by simp [World.cell?,hb8]);have d2 : w8.cell? ⟨wo.heap.size,1,none⟩ = some (.int .i64 x2) := (by simp [World.cell?,hb8]);have d3 : w8.cell? ⟨wo.heap.size,2,none⟩ = some (.int .i64 x3) := (by simp [World.cell?,hb8]);have hs8 := HE.out.size;have hc8 := World.news_of_block (cs := #[.int .i64 x1,.int .i64 x2,.int .i64 x3]) (t := 53) (fr := (0,0)) (heap_alloc_new w8 (.cells #[.int .i64 x1,.int .i64 x2,.int .i64 x3] 53));clear E8 hb8 HOWN hown
    go_wp2_with (at_builtin; refine wpList_append_own _ (by rfl) _ _ 24 (by rfl) w.heap.size 53 i0 _ 3 24 Tryz.underlying24 hi hz0 hz1 hz2 rfl (by decide) _ F.length _ (by rfl) (hr.alloc _) ⟨w8.heap.size,0,none⟩ 1 1 [.int .i64 x1,.int .i64 x2,.int .i64 x3] (by rfl) (by rfl) hc8 (by simp [Value.oneCell']) (by unfold maxLen; omega) (by omega) (by simp; omega) ?_; intro v2 w2 hown2 hgrow2 _)
    go_roundw
    case rel => exact ⟨k + 1,hlt,by go_num,by (rw [HSN.out]; first | rw [if_pos rfl] | rw [if_pos trivial]); rw [List.length_append,List.flatMap_append]; exact hown2,ext_app HE.out za hr hgrow2⟩
    case measure => simp [intOf]; omega
  ·obtain rfl : k = E.length := (by omega);rw [List.take_length] at hown;have hfl : (E.filter p).length <= 40 := Nat.le_trans (List.length_filter_le _ _) hl;have hx := hext
   go_wp2_with fail
   refine (ssortE40_any wo hown hfl hext.size).mono ?_;rintro e w2 ⟨rfl,s,hs1,hs2,hs3,hs4⟩;have hsl : s.length = (E.filter p).length := hs1.length_eq;rw [<- hsl] at hs3;have hE := Below.trans hext hs4
   go_wp2_with fail
   go_ret;exact ⟨_,s,rfl,hs1,hs2,hs3,hE⟩
theorem endStr : Tryz.prog.underlying 53 = some (.struct (Tryz.prog.fieldsOf 53)) := by kernel_rfl
theorem endHeld : Tryz.prog.stoodInHeld 53 = false := by kernel_rfl
theorem endGuard : Tryz.prog.eqGuardType Tryz.prog.depth 53 = false := by kernel_rfl
theorem endFields : (Tryz.prog.fieldsOf 53).toList.map (fun f => (f.name == "_",f.type,f.offset)) = [(false,3,0),(false,3,1),(false,3,2)] := by kernel_rfl
theorem eqE_run (a b c a' b' c' : Int) (w : World) : (binOp .eql 53 (.agg #[.int .i64 a,.int .i64 b,.int .i64 c]) (.agg #[.int .i64 a',.int .i64 b',.int .i64 c'])).run Tryz.prog w = .ok (.bool (eqE ⟨a,b,c⟩ ⟨a',b',c'⟩)) w := by
 rw [run_eql_struct,run_equalIn_agg w 9999 _ _ _ endStr endHeld];have h := endFields;generalize (Tryz.prog.fieldsOf 53).toList = fs at h;rcases fs with _ | ⟨f1,_ | ⟨f2,_ | ⟨f3,_ | ⟨f4,fs⟩⟩⟩⟩
 ·cases h
 ·simp at h
 ·simp at h
 rotate_left
 ·simp at h
 simp only [List.map_cons,List.map_nil,List.cons.injEq,Prod.mk.injEq,and_true] at h;obtain ⟨⟨h1,h2,h3⟩,⟨h4,h5,h6⟩,h7,h8,h9⟩ := h;have n1 : f1.name ≠ "_" := by simpa using h1
 have n2 : f2.name ≠ "_" := by simpa using h4
 have n3 : f3.name ≠ "_" := by simpa using h7
 have p0 : ∀ x y z : Value,(part 3 #[x,y,z] 0).run Tryz.prog w = .ok x w := fun x y z => by simp [part,Tryz.isAgg3 w]
 have p1 : ∀ x y z : Value,(part 3 #[x,y,z] 1).run Tryz.prog w = .ok y w := fun x y z => by simp [part,Tryz.isAgg3 w]
 have p2 : ∀ x y z : Value,(part 3 #[x,y,z] 2).run Tryz.prog w = .ok z w := fun x y z => by simp [part,Tryz.isAgg3 w]
 have pE : ∀ d x y,(Op.equalIn (d + 1) 3 (.int .i64 x) (.int .i64 y)).run Tryz.prog w = .ok (x == y) w := fun d x y => run_equalIn_int w d _ .i64 .i64 x y Tryz.underlying3;simp only [Op.eqFields,n1,n2,n3,ne_eq,not_false_eq_true,if_true,h2,h3,h5,h6,h8,h9];simp [p0,p1,p2,pE,eqE];by_cases h1 : a = a' <;> by_cases h2 : b = b' <;> by_cases h3 : c = c' <;> simp [h1,h2,h3]
def snapL (ver : Int) (d : ConfD) (T : Value) (bs br : Nat) (nb : Value) : List Value := .int .i64 ver :: (encC d ++ [T,.map (some bs),.map (some br),nb])
def SnapBox (w : World) (b : Nat) (ver : Int) (d : ConfD) (T : Value) (bs br : Nat) (nb : Value) : Prop := w.heap[b]? = some (.cells (snapL ver d T bs br nb).toArray 45 (0,0))
theorem SnapBox.lt {w : World} {b : Nat} {ver : Int} {d : ConfD} {T : Value} {bs br : Nat} {nb : Value} (h : SnapBox w b ver d T bs br nb) : b < w.heap.size := (zg h)
theorem SnapBox.ext {w w' : World} {b : Nat} {ver : Int} {d : ConfD} {T : Value} {bs br : Nat} {nb : Value} (h : SnapBox w b ver d T bs br nb) (e : Ext w w') : SnapBox w' b ver d T bs br nb := (e.block b h.lt).trans h
theorem SnapBox.cell {w : World} {b : Nat} {ver : Int} {d : ConfD} {T : Value} {bs br : Nat} {nb : Value} (h : SnapBox w b ver d T bs br nb) (j : Nat) (u : Value) (hu : (snapL ver d T bs br nb)[j]? = some u) : w.cell? ⟨b,j,none⟩ = some u := by
 unfold SnapBox at h;simp only [World.cell?,h];simpa using hu
theorem idxE_any (E : List EndD) (x : EndD) (v : Value) (w : World) (hs : Ends w v E) :
  Calls Tryz.prog 139 #[v,.agg #[.int .i64 x.id,.int .i64 x.svc,.int .i64 x.zone]] w fun e w' => ∃ z : Int,e = .returned (.int .i64 z) /\ decide (0 <= z) = E.any (eqE x) /\ -1 <= z /\ Ext w w' := by
 obtain ⟨hl',a,cap,rfl⟩ := hs.shape;have HC := hide hs;clear hs;obtain ⟨x1,x2,x3⟩ := x;have hb := heap_alloc_new w (.cells #[.int .i64 x1,.int .i64 x2,.int .i64 x3] 53);have hx : Ext w (w.alloc (.cells #[.int .i64 x1,.int .i64 x2,.int .i64 x3] 53)) := za;have HX := hide hx;have c1 : (w.alloc (.cells #[.int .i64 x1,.int .i64 x2,.int .i64 x3] 53)).cell? ⟨w.heap.size,0,none⟩ = some (.int .i64 x1) := by simp
 have c2 : (w.alloc (.cells #[.int .i64 x1,.int .i64 x2,.int .i64 x3] 53)).cell? ⟨w.heap.size,1,none⟩ = some (.int .i64 x2) := by simp
 have c3 : (w.alloc (.cells #[.int .i64 x1,.int .i64 x2,.int .i64 x3] 53)).cell? ⟨w.heap.size,2,none⟩ = some (.int .i64 x3) := by simp
 clear hx hb;have hg := endGuard
 go_enter Tryz.func139,Tryz.ntmps139
 go_wp2_with fail
 generalize w.alloc (.cells #[.int .i64 x1,.int .i64 x2,.int .i64 x3] 53) = W at c1 c2 c3 HX ⊢
 go_loopw [8] (fun i wr => ∃ k : Nat,k <= E.length /\ i = .int .i64 k /\ Hid ((E.take k).any (eqE ⟨x1,x2,x3⟩) = false) /\ Ext W wr) (fun i _ => E.length - (intOf i).toNat)
 case atStart => exact ⟨0,Nat.zero_le _,rfl,rfl,zb⟩
 case round =>
  obtain ⟨k,hk,rfl,hno,hext⟩ := hrel;have HNO := hide hno.out;clear hno;by_cases hlt : k < E.length
  ·have hltz : (k : Int) < E.length := (by omega);have hwk : IntKind.i64.wrap ((k : Int) + 1) = ((k + 1 : Nat) : Int) := (by rw [IntKind.wrap_i64]; omega);obtain ⟨b,off,rfl,hbb,d1,d2,d3⟩ := ends_at (HC.out.ext (HX.out.trans hext)) k hlt;have hsn : (E.take (k + 1)).any (eqE ⟨x1,x2,x3⟩) = eqE ⟨x1,x2,x3⟩ E[k] := (by rw [take_snoc E k hlt,List.any_append,HNO.out]; simp);have hin : eqE ⟨x1,x2,x3⟩ E[k] = true -> E.any (eqE ⟨x1,x2,x3⟩) = true := fun h => List.any_eq_true.2 ⟨_,List.getElem_mem hlt,h⟩;generalize E[k] = y at d1 d2 d3 hsn hin;obtain ⟨y1,y2,y3⟩ := y;simp only [] at d1 d2 d3 hsn hin;have hq := eqE_run x1 x2 x3 y1 y2 y3;obtain ⟨r,hr⟩ : ∃ r,eqE ⟨x1,x2,x3⟩ ⟨y1,y2,y3⟩ = r := ⟨_,rfl⟩;rw [hr] at hsn hin;simp only [hr] at hq;have HSN := hide hsn;have HIN := hide hin;have HE := hide hext;have e1 := (hext.cell (p := ⟨w.heap.size,0,none⟩) (World.block_lt_of_cell? W _ c1)).trans c1;have e2 := (hext.cell (p := ⟨w.heap.size,1,none⟩) (World.block_lt_of_cell? W _ c2)).trans c2;have e3 := (hext.cell (p := ⟨w.heap.size,2,none⟩) (World.block_lt_of_cell? W _ c3)).trans c3;clear hsn hin hr hext c1 c2 c3
   cases r with
   | true =>
    go_upto_region 4 with (fail)
    go_quiet (fail)
    go_wp2;go_ret
    exact ⟨k,rfl,by rw [show E.any (eqE ⟨x1,x2,x3⟩) = true by first | exact HIN.out rfl | exact HIN.out trivial]; simp,by omega,HX.out.trans (Below.drewN' HE.out _)⟩
   | false =>
    go_upto_region 4 with (fail)
    go_quiet (fail)
    go_wp2
    go_roundw
    case rel => exact ⟨k + 1,hlt,by first | rfl | simp,HSN.out,Below.drewN' HE.out _⟩
    case measure => simp [intOf]; omega
  ·obtain rfl : k = E.length := (by omega);have h := HNO.out;rw [List.take_length] at h;have HN := hide h;have HE := hide hext;clear h hext;go_wp2;go_ret;exact ⟨-1,rfl,by rw [HN.out]; rfl,by omega,HX.out.trans HE.out⟩
theorem contE_any (E : List EndD) (x : EndD) (v : Value) (w : World) (hs : Ends w v E) :
  Calls Tryz.prog 102 #[v,.agg #[.int .i64 x.id,.int .i64 x.svc,.int .i64 x.zone]] w fun e w' => e = .returned (.bool (E.any (eqE x))) /\ Ext w w' := by
 have hx : Ext w (w.alloc (.cells #[.int .i64 x.id,.int .i64 x.svc,.int .i64 x.zone] 53)) := za;have hc := hide (idxE_any E x v _ (hs.ext hx));have HX := hide hx;obtain ⟨hl',a,cap,rfl⟩ := hs.shape;clear hs hx;obtain ⟨x1,x2,x3⟩ := x;generalize E.any (eqE ⟨x1,x2,x3⟩) = r at hc ⊢
 go_enter Tryz.func102,Tryz.ntmps102
 go_wp2_with fail
 refine hc.out.mono ?_;rintro e w1 ⟨z,rfl,h1,h2,E1⟩;have HE := hide E1;clear E1;by_cases hz : 0 <= z
 ·rw [decide_eq_true hz] at h1;subst h1;go_wp2;go_ret;exact ⟨by first | rfl | simp [hz],HX.out.trans HE.out⟩
 ·rw [decide_eq_false hz] at h1;subst h1;go_wp2;go_ret;exact ⟨by first | rfl | simp [hz],HX.out.trans HE.out⟩
theorem has_end (id : Int) (x : EndD) (w : World) : Calls Tryz.prog 63 #[.int .i64 id,.agg #[.int .i64 x.id,.int .i64 x.svc,.int .i64 x.zone]] w fun e w' => e = .returned (.bool (x.svc == id)) /\ Ext w w' := by
 obtain ⟨x1,x2,x3⟩ := x;have hE : ∀ a,Ext w (w.alloc a) := fun a => za;have HE := hide hE;clear hE;by_cases h : x2 = id
 ·subst h
  go_enter Tryz.func63,Tryz.ntmps63
  go_wp2;go_ret;exact ⟨by simp,HE.out _⟩
 ·have h' : (x2 == id) = false := by simpa using h
  go_enter Tryz.func63,Tryz.ntmps63
  go_wp2;go_ret;exact ⟨by simp [h],HE.out _⟩
theorem lacks_end {b : Nat} {ver : Int} {d : ConfD} {T : Value} {bs br : Nat} {nb : Value} (x : EndD) (w : World) (hb : SnapBox w b ver d T bs br nb) (hs : Ends w d.ev d.E) : Calls Tryz.prog 68 #[.pointer (some ⟨b,0,none⟩),.agg #[.int .i64 x.id,.int .i64 x.svc,.int .i64 x.zone]] w fun e w' => e = .returned (.bool (lacksE d.E x)) /\ Ext w w' := by
 obtain ⟨x1,x2,x3⟩ := x;obtain ⟨hl',a,cap,hv⟩ := hs.shape;have hlt := hb.lt;have hx : Ext w (w.alloc (.cells #[.int .i64 x1,.int .i64 x2,.int .i64 x3] 53)) := za;have c0 : (w.alloc (.cells #[.int .i64 x1,.int .i64 x2,.int .i64 x3] 53)).cell? ⟨b,2,none⟩ = some (.slice a d.E.length cap) := by rw [<- hv]; exact (hb.ext hx).cell 2 _ rfl
 have c1 : (w.alloc (.cells #[.int .i64 x1,.int .i64 x2,.int .i64 x3] 53)).cell? ⟨w.heap.size,0,none⟩ = some (.int .i64 x1) := by simp
 have c2 : (w.alloc (.cells #[.int .i64 x1,.int .i64 x2,.int .i64 x3] 53)).cell? ⟨w.heap.size,1,none⟩ = some (.int .i64 x2) := by simp
 have c3 : (w.alloc (.cells #[.int .i64 x1,.int .i64 x2,.int .i64 x3] 53)).cell? ⟨w.heap.size,2,none⟩ = some (.int .i64 x3) := by simp
 rw [hv] at hs;have hcon := fun X hX => contE_any d.E ⟨x1,x2,x3⟩ (.slice a d.E.length cap) X (hs.ext hX);have HCON := hide hcon;have HX := hide hx;have hl : lacksE d.E ⟨x1,x2,x3⟩ = !d.E.any (eqE ⟨x1,x2,x3⟩) := rfl;rw [hl];generalize d.E.any (eqE ⟨x1,x2,x3⟩) = r at HCON ⊢;clear hcon hx hs hl hb hlt
 go_enter Tryz.func68,Tryz.ntmps68
 go_upto_region 1 with (fail)
 generalize w.alloc (.cells #[.int .i64 x1,.int .i64 x2,.int .i64 x3] 53) = W at c0 c1 c2 c3 HX ⊢
 go_still_tail 6,(by kernel_rfl)
 change wpList _ _ _ _ _ W.drew
 go_wp2_with fail
 refine (HCON.out _ (HX.out.trans zb.drew)).mono ?_;rintro e w8 ⟨rfl,E8⟩;have HE := hide ((HX.out.trans zb.drew).trans E8);clear E8;go_wp2
 all_goals go_ret
 all_goals exact ⟨by first | rfl | simp_all,HE.out⟩
end Go.Proofs.YtoaiakhnnfbkdaaGreatDoor
