/- Lemmas. -/
import Derived.Test.YtoaiakhnnfbkdaaGreatDoorZy
import Derived.Test.YtoaiakhnnfbkdaaGreatDoorZcb
import Derived.Test.YtoaiakhnnfbkdaaGreatDoorZcp
import Derived.Test.YtoaiakhnnfbkdaaGreatDoorZro
import Derived.Test.YtoaiakhnnfbkdaaGreatDoorZrw
set_option maxRecDepth 100000
set_option maxHeartbeats 32000000
namespace Go.Proofs.YtoaiakhnnfbkdaaGreatDoor
open Go.ChangeShapes Go.WideShapes Go.ChangeAt Go.RowKit Go.Lib Go.Shelf Go.Maps
def idsAt (E : List EndD) (id : Int) : List Int := (endsAt E id).map EndD.id
def svcF (S : List SvcD) (id : Int) : Option Value := (S.find? (fun s => s.id == id)).map SvcD.val
structure SnapIs (B : Nat) (w : World) (b : Nat) (ver : Int) (d : ConfD) (bt bs br : Nat) (nb : Value) (Rs : List RuleD) (g : Int -> Option Value) : Prop where
 hb : B <= b
 hbs : B <= bs
 hbr : B <= br
 box : SnapBox w b ver d (.pointer (some ⟨bt,0,none⟩)) bs br nb
 own : ConfOwn B w d
 tab : TabAt B w bt Rs (rowR d.R)
 rs : Rs.map RuleD.core = d.R.map RuleD.core
 sm : ∃ n,MapV (Lit.int .i64) w 3 bs n (svcF d.S)
 rm : ∃ n,MapV (Lit.int .i64) w 3 br n g
 rg : ∀ id,(g id).isSome = thereB d.S id
 ring : ∀ id v,g id = some v -> Rg.RingNew B w v (Rg.ends (idsAt d.E id)).length (Rg.pointsOf 16 (idsAt d.E id))
 nob : Rg.RingNew B w nb (Rg.ends []).length (Rg.pointsOf 16 [])
 right : chkC d = 0
 few : d.E.length <= 40
theorem SnapIs.ext {B : Nat} {w w' : World} {b : Nat} {ver : Int} {d : ConfD} {bt bs br : Nat} {nb : Value} {Rs : List RuleD} {g : Int -> Option Value} (h : SnapIs B w b ver d bt bs br nb Rs g) (e : Ext w w') : SnapIs B w' b ver d bt bs br nb Rs g :=
 ⟨h.hb,h.hbs,h.hbr,h.box.ext e,h.own.ext e,h.tab.ext e,h.rs,let ⟨n,hn⟩ := h.sm; ⟨n,hn.ext e⟩,let ⟨n,hn⟩ := h.rm; ⟨n,hn.ext e⟩,h.rg,fun id v hv => (h.ring id v hv).ext e,h.nob.ext e,h.right,h.few⟩
theorem SnapIs.nodup {B : Nat} {w : World} {b : Nat} {ver : Int} {d : ConfD} {bt bs br : Nat} {nb : Value} {Rs : List RuleD} {g : Int -> Option Value} (h : SnapIs B w b ver d bt bs br nb Rs g) : (d.E.map EndD.id).Nodup := ends_nodup (chkC_ends h.right).2.2.2.2.1
def SnapAt (B : Nat) (w : World) (b : Nat) (ver : Int) (c : ConfD) : Prop := ∃ d bt bs br nb Rs g,SnapIs B w b ver d bt bs br nb Rs g /\ d.core = c.core
theorem SnapAt.ext {B : Nat} {w w' : World} {b : Nat} {ver : Int} {c : ConfD} (h : SnapAt B w b ver c) (e : Ext w w') : SnapAt B w' b ver c := by
 obtain ⟨d,bt,bs,br,nb,Rs,g,h,hc⟩ := h;exact ⟨d,bt,bs,br,nb,Rs,g,h.ext e,hc⟩
theorem ends_sl {B : Nat} {w : World} {d : ConfD} (h : ConfOwn B w d) : Ends w d.ev d.E := Sl.of_own' encE_len h.e
theorem mends_any {b : Nat} {ver : Int} {d : ConfD} {T : Value} {bs br : Nat} {nb : Value} (id : Int) (w : World) (hb : SnapBox w b ver d T bs br nb) (hs : Ends w d.ev d.E) (hn : (d.E.map EndD.id).Nodup) (hl : d.E.length <= 40) :
  Calls Tryz.prog 25 #[.pointer (some ⟨b,0,none⟩),.int .i64 id] w fun e w' => ∃ v',e = .returned v' /\ w'.ownsRow w.heap.size 53 3 v' (endsAt d.E id).length ((endsAt d.E id).flatMap encE) /\ Ext w w' := by
 obtain ⟨hl',a,cap,hv⟩ := hs.shape;have hlt := hb.lt;have c0 : w.cell? ⟨b,2,none⟩ = some (.slice a d.E.length cap) := by rw [<- hv]; exact hb.cell 2 _ rfl
 rw [hv] at hs;have hc := hide (toldH_any d.E (fun e => e.svc == id) id (.slice a d.E.length cap) w hs hl (fun X x _ => has_end id x X));have hu : ∀ s : List EndD,s.Perm (d.E.filter fun e => e.svc == id) -> s.Pairwise (fun x y => x.id <= y.id) -> s = endsAt d.E id := fun s h1 h2 => srtE_unique h1 h2 (nodup_filter _ hn);have HU := hide hu;clear hs hn hu hb
 go_enter Tryz.func25,Tryz.ntmps25
 go_wp2_with fail
 refine hc.out.mono ?_;rintro e w1 ⟨v',s,rfl,h1,h2,h3,h4⟩;obtain rfl := HU.out s h1 h2;clear h1 h2
 go_wp2_with fail
 go_ret;exact ⟨v',rfl,h3,h4⟩
theorem frame24 (x : Nat -> Value) : frameOf 24 x = #[x 0,x 1,x 2,x 3,x 4,x 5,x 6,x 7,x 8,x 9,x 10,x 11,x 12,x 13,x 14,x 15,x 16,x 17,x 18,x 19,x 20,x 21,x 22,x 23] := rfl
theorem diff_any {BA BB ba bb : Nat} {va vb : Int} {da db : ConfD} {bta bsa bra btb bsb brb : Nat} {nba nbb : Value} {Ra Rb : List RuleD} {ga gb : Int -> Option Value} (w : World) (ha : SnapIs BA w ba va da bta bsa bra nba Ra ga) (hb : SnapIs BB w bb vb db btb bsb brb nbb Rb gb) :
  Calls Tryz.prog 32 #[.pointer (some ⟨ba,0,none⟩),.pointer (some ⟨bb,0,none⟩)] w fun e w' => ∃ v1 v2,e = .returned (.tuple #[v1,v2]) /\ w'.ownsRow w.heap.size 3 1 v1 (cameE da.E db.E).length ((cameE da.E db.E).flatMap encI) /\ w'.ownsRow w.heap.size 3 1 v2 (cameE db.E da.E).length ((cameE db.E da.E).flatMap encI) /\ Ext w w' := by
 have hsa := ends_sl ha.own;have hsb := ends_sl hb.own;obtain ⟨-,aA,cA,hvA⟩ := hsa.shape;obtain ⟨-,aB,cB,hvB⟩ := hsb.shape;have hca : ∀ X,Ext w X -> X.cell? ⟨ba,2,none⟩ = some (.slice aA da.E.length cA) := fun X hX => by rw [<- hvA]; exact (ha.box.ext hX).cell 2 _ rfl
 have hcb : ∀ X,Ext w X -> X.cell? ⟨bb,2,none⟩ = some (.slice aB db.E.length cB) := fun X hX => by rw [<- hvB]; exact (hb.box.ext hX).cell 2 _ rfl
 rw [hvA] at hsa;rw [hvB] at hsb
 have htb : ∀ X,Ext w X -> Calls Tryz.prog 62 #[.slice aB db.E.length cB,.func (.func 68) #[.pointer (some ⟨ba,0,none⟩)] #[]] X fun e w' => ∃ v',e = .returned v' /\ w'.ownsRow X.heap.size 53 3 v' (srtE (db.E.filter (lacksE da.E))).length ((srtE (db.E.filter (lacksE da.E))).flatMap encE) /\ Ext X w' := fun X hX =>
  (toldL_any db.E (lacksE da.E) ba _ X (hsb.ext hX) hb.few (fun Y x hY => lacks_end x Y ((ha.box.ext hX).ext hY) ((ends_sl ha.own).ext (hX.trans hY)))).mono (by
   rintro e w' ⟨v',s,rfl,h1,h2,h3,h4⟩;obtain rfl := srtE_unique h1 h2 (nodup_filter _ hb.nodup)
   exact ⟨v',rfl,h3,h4⟩)
 have hta : ∀ X,Ext w X -> Calls Tryz.prog 62 #[.slice aA da.E.length cA,.func (.func 68) #[.pointer (some ⟨bb,0,none⟩)] #[]] X fun e w' => ∃ v',e = .returned v' /\ w'.ownsRow X.heap.size 53 3 v' (srtE (da.E.filter (lacksE db.E))).length ((srtE (da.E.filter (lacksE db.E))).flatMap encE) /\ Ext X w' := fun X hX =>
  (toldL_any da.E (lacksE db.E) bb _ X (hsa.ext hX) ha.few (fun Y x hY => lacks_end x Y ((hb.box.ext hX).ext hY) ((ends_sl hb.own).ext (hX.trans hY)))).mono (by
   rintro e w' ⟨v',s,rfl,h1,h2,h3,h4⟩;obtain rfl := srtE_unique h1 h2 (nodup_filter _ ha.nodup)
   exact ⟨v',rfl,h3,h4⟩)
 have hlb : (srtE (db.E.filter (lacksE da.E))).length <= 1000000 := by
  rw [(srtE_perm _).length_eq];exact Nat.le_trans (List.length_filter_le _ _) (Nat.le_trans hb.few (by decide))
 have hla : (srtE (da.E.filter (lacksE db.E))).length <= 1000000 := by
  rw [(srtE_perm _).length_eq];exact Nat.le_trans (List.length_filter_le _ _) (Nat.le_trans ha.few (by decide))
 unfold cameE;generalize srtE (db.E.filter (lacksE da.E)) = TB at htb hlb ⊢;generalize srtE (da.E.filter (lacksE db.E)) = TA at hta hla ⊢;generalize da.E = EA at hca hta;generalize db.E = EB at hcb htb;have hlt1 := ha.box.lt;have hlt2 := hb.box.lt;have HCA := hide hca;have HCB := hide hcb;have HTA := hide hta;have HTB := hide htb;have HLA := hide hla;have HLB := hide hlb;clear hca hcb hta htb hla hlb hsa hsb ha hb hvA hvB
 go_enter Tryz.func32,Tryz.ntmps32
 go_upto_region 1 with (fail)
 refine wp_region_rw 24 [] [4,5,6,7,8,9,10,11,12,13,14,15,16,17,18,19,20,21,22,23] (fun _ w' => Ext w w') (fun (t : Nat) (wI : World) (v : Value) => match t with | 4 => wI.ownsRow w.heap.size 3 1 v (TB.map EndD.id).length ((TB.map EndD.id).flatMap encI) | 5 => wI.ownsRow w.heap.size 3 1 v (TA.map EndD.id).length ((TA.map EndD.id).flatMap encI) | 6 => v = (.pointer (some ⟨bb,0,none⟩)) | 7 => v = (.pointer (some ⟨bb,0,none⟩)) | 8 => v = (.pointer (some ⟨bb,1,none⟩)) | 9 => v = (.pointer (some ⟨bb,2,none⟩)) | 10 => v = (.slice aB EB.length cB) | 11 => v = (.pointer (some ⟨ba,0,none⟩)) | 12 => v = (.func (.func 68) #[(.pointer (some ⟨ba,0,none⟩))] #[]) | 13 => wI.ownsRow w.heap.size 53 3 v (TB).length ((TB).flatMap encE) | 14 => wI.ownsRow w.heap.size 3 1 v (TB.map EndD.id).length ((TB.map EndD.id).flatMap encI) | 15 => v = (.pointer (some ⟨ba,0,none⟩)) | 16 => v = (.pointer (some ⟨ba,0,none⟩)) | 17 => v = (.pointer (some ⟨ba,1,none⟩)) | 18 => v = (.pointer (some ⟨ba,2,none⟩)) | 19 => v = (.slice aA EA.length cA) | 20 => v = (.pointer (some ⟨bb,0,none⟩)) | 21 => v = (.func (.func 68) #[(.pointer (some ⟨bb,0,none⟩))] #[]) | 22 => wI.ownsRow w.heap.size 53 3 v (TA).length ((TA).flatMap encE) | 23 => wI.ownsRow w.heap.size 3 1 v (TA.map EndD.id).length ((TA.map EndD.id).flatMap encI) | _ => True) (fun w' w'' => Ext w' w'') (by kernel_rfl) rfl (by kernel_rfl) (by kernel_rfl) (by kernel_rfl) (by kernel_rfl) ?_ ?_ ?_ ?_ ?_ ?_ ?_
 ·intro w' w'' h;exact h
 ·intro t w' w'' v hR hv;split at hv <;> first | exact hv | (exact owns_ext hv hR) | (subst hv; rfl)
 ·intro vs w' w'' h e;exact Ext.trans (show Ext w w' from h) e
 ·exact zb.drew
 ·intro i o ho hmi vs X w' hpk hph hX hI hF K hK;have hin : i < 20 := (zg ho);rcases zo hin with rfl | rfl | rfl | rfl | rfl | rfl | rfl | rfl | rfl | rfl | rfl | rfl | rfl | rfl | rfl | rfl | rfl | rfl | rfl | rfl
  all_goals first | (exact absurd hmi (by decide)) | (obtain rfl := Option.some.inj ho; unfold wpOp; simp only [ho]; rw [if_pos (by rfl)]; left; rw [frame24])
  ·have e1 : X 1 = (.pointer (some ⟨bb,0,none⟩)) := zk3 (hF 1);go_simp;refine zm1 hK ((.pointer (some ⟨bb,0,none⟩))) ?_;simp [frame24,Act.put, *]
  ·have e6 : X 6 = _ := zk2 (hI 6);go_simp;refine zm1 hK ((.pointer (some ⟨bb,0,none⟩))) ?_;simp [frame24,Act.put, *]
  ·have e7 : X 7 = _ := zk2 (hI 7);go_simp;refine zm1 hK ((.pointer (some ⟨bb,1,none⟩))) ?_;simp [frame24,Act.put, *]
  ·have e8 : X 8 = _ := zk2 (hI 8);go_simp;refine zm1 hK ((.pointer (some ⟨bb,2,none⟩))) ?_;simp [frame24,Act.put, *]
  ·have e9 : X 9 = _ := zk2 (hI 9);have hx : Ext w w' := hph;have q := HCB.out _ hx;go_simp;refine zm1 hK ((.slice aB EB.length cB)) ?_;simp [frame24,Act.put, *]
  ·have e0 : X 0 = (.pointer (some ⟨ba,0,none⟩)) := zk3 (hF 0);go_simp;refine zm1 hK ((.pointer (some ⟨ba,0,none⟩))) ?_;simp [frame24,Act.put, *]
  ·have e11 : X 11 = _ := zk2 (hI 11);go_simp;refine zm1 hK ((.func (.func 68) #[(.pointer (some ⟨ba,0,none⟩))] #[])) ?_;simp [frame24,Act.put, *]
  ·have e10 : X 10 = _ := zk2 (hI 10);have e12 : X 12 = _ := zk2 (hI 12);have hx : Ext w w' := hph;go_simp;refine (HTB.out _ hx).mono ?_;rintro e w9 ⟨v',rfl,h9,E9⟩;refine metK (hK.out v' w9 E9 (fun d hd => by cases hd; exact owns_mono h9 hx.size)) ?_;simp [frame24,Act.put, *]
  ·have y13 := zk2 (hI 13);have hx : Ext w w' := hph;go_simp;refine (ids_any _ _ w' (Sl.of_own' encE_len y13) HLB.out).mono ?_;rintro e w9 ⟨v',rfl,h9,E9⟩;rw [<- List.length_map (f := EndD.id)] at h9;refine metK (hK.out v' w9 E9 (fun d hd => by cases hd; exact owns_mono h9 hx.size)) ?_;simp [frame24,Act.put, *]
  ·have e0 : X 0 = (.pointer (some ⟨ba,0,none⟩)) := zk3 (hF 0);go_simp;refine zm1 hK ((.pointer (some ⟨ba,0,none⟩))) ?_;simp [frame24,Act.put, *]
  ·have e15 : X 15 = _ := zk2 (hI 15);go_simp;refine zm1 hK ((.pointer (some ⟨ba,0,none⟩))) ?_;simp [frame24,Act.put, *]
  ·have e16 : X 16 = _ := zk2 (hI 16);go_simp;refine zm1 hK ((.pointer (some ⟨ba,1,none⟩))) ?_;simp [frame24,Act.put, *]
  ·have e17 : X 17 = _ := zk2 (hI 17);go_simp;refine zm1 hK ((.pointer (some ⟨ba,2,none⟩))) ?_;simp [frame24,Act.put, *]
  ·have e18 : X 18 = _ := zk2 (hI 18);have hx : Ext w w' := hph;have q := HCA.out _ hx;go_simp;refine zm1 hK ((.slice aA EA.length cA)) ?_;simp [frame24,Act.put, *]
  ·have e1 : X 1 = (.pointer (some ⟨bb,0,none⟩)) := zk3 (hF 1);go_simp;refine zm1 hK ((.pointer (some ⟨bb,0,none⟩))) ?_;simp [frame24,Act.put, *]
  ·have e20 : X 20 = _ := zk2 (hI 20);go_simp;refine zm1 hK ((.func (.func 68) #[(.pointer (some ⟨bb,0,none⟩))] #[])) ?_;simp [frame24,Act.put, *]
  ·have e19 : X 19 = _ := zk2 (hI 19);have e21 : X 21 = _ := zk2 (hI 21);have hx : Ext w w' := hph;go_simp;refine (HTA.out _ hx).mono ?_;rintro e w9 ⟨v',rfl,h9,E9⟩;refine metK (hK.out v' w9 E9 (fun d hd => by cases hd; exact owns_mono h9 hx.size)) ?_;simp [frame24,Act.put, *]
  ·have y22 := zk2 (hI 22);have hx : Ext w w' := hph;go_simp;refine (ids_any _ _ w' (Sl.of_own' encE_len y22) HLA.out).mono ?_;rintro e w9 ⟨v',rfl,h9,E9⟩;rw [<- List.length_map (f := EndD.id)] at h9;refine metK (hK.out v' w9 E9 (fun d hd => by cases hd; exact owns_mono h9 hx.size)) ?_;simp [frame24,Act.put, *]
  ·have y14 := zk2 (hI 14);go_simp;refine metK (hK.out _ _ zb (fun d hd => by cases hd; exact y14)) ?_;simp [frame24,Act.put, *]
  ·have y23 := zk2 (hI 23);go_simp;refine metK (hK.out _ _ zb (fun d hd => by cases hd; exact y23)) ?_;simp [frame24,Act.put, *]
 ·intro i o ho hmi vs X w' hqi hql hph hX hI hF K hK;rcases vs with _
  ·simp at hql <;> omega
 ·intro vs X w' hlen hph hX hI;have y4 := zk4 (hI 4);have y5 := zk4 (hI 5);have e6 : X 6 = _ := zk4 (hI 6);have e7 : X 7 = _ := zk4 (hI 7);have e8 : X 8 = _ := zk4 (hI 8);have e9 : X 9 = _ := zk4 (hI 9);have e10 : X 10 = _ := zk4 (hI 10);have e11 : X 11 = _ := zk4 (hI 11);have e12 : X 12 = _ := zk4 (hI 12);have y13 := zk4 (hI 13);have y14 := zk4 (hI 14);have e15 : X 15 = _ := zk4 (hI 15);have e16 : X 16 = _ := zk4 (hI 16);have e17 : X 17 = _ := zk4 (hI 17);have e18 : X 18 = _ := zk4 (hI 18);have e19 : X 19 = _ := zk4 (hI 19);have e20 : X 20 = _ := zk4 (hI 20);have e21 : X 21 = _ := zk4 (hI 21);have y22 := zk4 (hI 22);have y23 := zk4 (hI 23);rcases vs with _ | ⟨vz,vs⟩
  rotate_left
  ·simp at hlen
  clear hX hI hlen;simp only [overF,List.foldl_cons,List.foldl_nil,List.setIfInBounds_toArray,List.set_cons_succ,List.set_cons_zero,e6,e7,e8,e9,e10,e11,e12,e15,e16,e17,e18,e19,e20,e21];have HY4 := hide y4;have HY5 := hide y5;have hx : Ext w w' := hph;have HX := hide hx;clear y4 y5 y13 y14 y22 y23 hx hph
  go_wp2_with fail
  go_ret2;exact ⟨X 4,X 5,rfl,by first | exact HY4.out | (rw [<- List.length_map (f := EndD.id)]; exact HY4.out),by first | exact HY5.out | (rw [<- List.length_map (f := EndD.id)]; exact HY5.out),HX.out⟩
theorem thereB_core (S : List SvcD) (id : Int) : thereB (S.map SvcD.core) id = thereB S id := by
 unfold thereB;rw [List.any_map];rfl
theorem svcB_core (A : List SvcD) (s : SvcD) : svcB (A.map SvcD.core) s.core = svcB A s := by
 have h := thereB_core A s.id;unfold svcB;show (inB 1 10 s.id && !thereB (A.map SvcD.core) s.id && _ && _ && _ && _ && _ && _ && _) = _;rw [h];rfl
theorem allAt_map {α β : Type} (f : List β -> β -> Bool) (g : List α -> α -> Bool) (m : α -> β) (h : ∀ A s,f (A.map m) (m s) = g A s) : ∀ (L A : List α),allAt f (A.map m) (L.map m) = allAt g A L
 | [],_ => rfl
 | x :: L,A => by
  show (f (A.map m) (m x) && allAt f (A.map m ++ [m x]) (L.map m)) = (g A x && allAt g (A ++ [x]) L);rw [h,<- allAt_map f g m h L (A ++ [x]),List.map_append];rfl
theorem nerr_coreC (R : List RuleD) (n : Int) : nerr (R.map RuleD.core) n = nerr R n := by
 unfold nerr;rw [List.length_map,List.map_map];rfl
theorem lead_core (S : List SvcD) (r : RuleD) : leadB (S.map SvcD.core) r.core = leadB S r := by
 unfold leadB;show ((r.P.all fun p => thereB (S.map SvcD.core) p.1) && (r.mi == 0 || thereB (S.map SvcD.core) r.mi)) = _;rw [thereB_core];simp only [thereB_core]
theorem chkC_core (c : ConfD) : chkC c.core = chkC c := by
 have h1 : allAt svcB [] (c.S.map SvcD.core) = allAt svcB [] c.S := allAt_map svcB svcB SvcD.core svcB_core c.S []
 have h2 : allAt (fun a e => endB a (c.S.map SvcD.core) e) [] c.E = allAt (fun a e => endB a c.S e) [] c.E := by
  congr 1;funext a e;unfold endB;rw [thereB_core]
 have h3 : (c.R.map RuleD.core).all (leadB (c.S.map SvcD.core)) = c.R.all (leadB c.S) := by
  rw [List.all_map];congr 1;funext r;exact lead_core c.S r
 unfold chkC;show (if 10 < (c.S.map SvcD.core).length \/ 40 < c.E.length \/ 4 < c.T.length then 2 else if allAt svcB [] (c.S.map SvcD.core) = false then 13 else if allAt (fun a e => endB a (c.S.map SvcD.core) e) [] c.E = false then 14 else if nerr (c.R.map RuleD.core) c.T.length ≠ 0 then nerr (c.R.map RuleD.core) c.T.length else if (c.R.map RuleD.core).all (leadB (c.S.map SvcD.core)) = false then 13 else if c.T.all rateB = false then 15 else if watchB c.core = false then 8 else if numB c.core = false then 8 else 0) = _;rw [h1,h2,h3,nerr_coreC,List.length_map];rfl
theorem chkC_same {c d : ConfD} (h : d.core = c.core) : chkC d = chkC c := by rw [<- chkC_core d,h,chkC_core]
theorem mem_core {c d : ConfD} (h : d.core = c.core) {r : RuleD} (hr : r ∈ d.R) : ∃ r0 ∈ c.R,r.core = r0.core := by
 have h1 : d.core.R = c.core.R := by rw [h]
 have h2 : r.core ∈ c.R.map RuleD.core := by
  have : r.core ∈ d.core.R := List.mem_map.2 ⟨r,hr,rfl⟩;rw [h1] at this;exact this
 obtain ⟨r0,h3,h4⟩ := List.mem_map.1 h2;exact ⟨r0,h3,h4.symm⟩
theorem RuleFit.core {r r0 : RuleD} (h : RuleFit r0) (e : r.core = r0.core) : RuleFit r := by
 have h1 : RuleFit r0.core := h;rw [<- e] at h1;exact h1
theorem core_E {c d : ConfD} (h : d.core = c.core) : d.E = c.E := by
 have h1 : d.core.E = c.core.E := by rw [h]
 exact h1
def OfM (w : World) (X : Nat -> Prop) : Prop := ∀ g,X g -> ∃ es c,w.heap[g]? = some (.map es c)
theorem OfM.one {w : World} {b : Nat} {es : Array MapEntry} {c : Nat} (h : w.heap[b]? = some (.map es c)) : OfM w (fun g => g = b) := fun g hg => by subst hg; exact ⟨es,c,h⟩
theorem MapV.block {α : Type} {mk : α -> Lit} {w : World} {k : TypeId} {b n : Nat} {f : α -> Option Value} (h : MapV mk w k b n f) : ∃ es c,w.heap[b]? = some (.map es c) := by
 obtain ⟨D,⟨es,c,h1,-⟩,-⟩ := h;exact ⟨es,c,h1⟩
theorem MapV.ofM {α : Type} {mk : α -> Lit} {w : World} {k : TypeId} {b n : Nat} {f : α -> Option Value} (h : MapV mk w k b n f) : OfM w (fun g => g = b) := by
 obtain ⟨es,c,h1⟩ := h.block;exact OfM.one h1
theorem cells_keepM {X : Nat -> Prop} {w w' : World} (k : Keeps X w w') (hX : OfM w X) {b : Nat} {cs : Array Value} {T : TypeId} {f : Nat × Nat} (h : w.heap[b]? = some (.cells cs T f)) : w'.heap[b]? = some (.cells cs T f) :=
 (k.block b (zg h) (fun hx => by
  obtain ⟨es,c,h1⟩ := hX b hx;rw [h] at h1
  cases h1)).trans h
theorem owns_keepM {X : Nat -> Prop} {w w' : World} {base : Nat} {e : TypeId} {size : Nat} {v : Value} {n : Nat} {xs : List Value} (h : w.ownsRow base e size v n xs) (k : Keeps X w w') (hX : OfM w X) : w'.ownsRow base e size v n xs :=
 owns_keeps h k fun g hg hx => by
  obtain ⟨es,c,h1⟩ := hX g hx;obtain ⟨cs,f,h2⟩ := ownsRow_kind h g hg;rw [h1] at h2;cases h2
theorem RuleOwn.keepM {X : Nat -> Prop} {B : Nat} {w w' : World} {r : RuleD} (h : RuleOwn B w r) (k : Keeps X w w') (hX : OfM w X) : RuleOwn B w' r :=
 ⟨owns_keepM h.1 k hX,owns_keepM h.2.1 k hX,owns_keepM h.2.2.1 k hX,owns_keepM h.2.2.2 k hX⟩
theorem ConfOwn.keepM {X : Nat -> Prop} {B : Nat} {w w' : World} {c : ConfD} (h : ConfOwn B w c) (k : Keeps X w w') (hX : OfM w X) : ConfOwn B w' c :=
 ⟨owns_keepM h.s k hX,fun s hs => owns_keepM (h.k s hs) k hX,owns_keepM h.e k hX,owns_keepM h.r k hX,fun r hr => (h.rr r hr).keepM k hX,owns_keepM h.t k hX⟩
theorem TabAt.keepM {X : Nat -> Prop} {B b : Nat} {w w' : World} {Rs : List RuleD} {I : List Int} (h : TabAt B w b Rs I) (k : Keeps X w w') (hX : OfM w X) : TabAt B w' b Rs I := by
 obtain ⟨h1,⟨vr,vi,h2,h3,h4⟩,h5⟩ := h;exact ⟨h1,⟨vr,vi,cells_keepM k hX h2,owns_keepM h3 k hX,owns_keepM h4 k hX⟩,fun r hr => (h5 r hr).keepM k hX⟩
theorem SnapBox.keepM {X : Nat -> Prop} {w w' : World} {b : Nat} {ver : Int} {d : ConfD} {T : Value} {bs br : Nat} {nb : Value} (h : SnapBox w b ver d T bs br nb) (k : Keeps X w w') (hX : OfM w X) : SnapBox w' b ver d T bs br nb := cells_keepM k hX h
theorem cell_keepM {X : Nat -> Prop} {w w' : World} (k : Keeps X w w') (hX : OfM w X) {p : Addr} {u : Value} (h : w.cell? p = some u) : w'.cell? p = some u := by
 have hlt := World.block_lt_of_cell? w p h;refine (k.cell hlt (fun hx => ?_)).trans h;obtain ⟨es,c,h1⟩ := hX _ hx;simp [World.cell?,h1] at h
theorem sl_keepM {α : Type} {enc : α -> List Value} {size : Nat} {X : Nat -> Prop} {w w' : World} {v : Value} {xs : List α} (_hsz : 0 < size) (_hs : ∀ x,(enc x).length = size) (h : Sl enc size w v xs) (k : Keeps X w w') (hX : OfM w X) : Sl enc size w' v xs := by
 obtain ⟨h1,a,cap,h2,hcap,h3⟩ := h;refine ⟨h1,a,cap,h2,hcap,fun i x hi => ?_⟩;obtain ⟨b,off,ha,hb,hc⟩ := h3 i x hi;exact ⟨b,off,ha,Nat.lt_of_lt_of_le hb k.size,fun j u hu => cell_keepM k hX (hc j u hu)⟩
theorem RingNew.keepM {X : Nat -> Prop} {base : Nat} {w w' : World} {r : Value} {n : Nat} {P : List (Int × Int)} (h : Rg.RingNew base w r n P) (k : Keeps X w w') (hX : OfM w X) : Rg.RingNew base w' r n P := by
 obtain ⟨h0,h00,B,a,cap,h1,h2,h3,h4⟩ := h;exact ⟨h0,h00,B,a,cap,h1,cells_keepM k hX h2,sl_keepM (by decide) Rg.encQ_len h3 k hX,h4⟩
theorem MapV.keepB {α : Type} {mk : α -> Lit} {w w' : World} {k : TypeId} {b n : Nat} {f : α -> Option Value} (h : MapV mk w k b n f) (e : w'.heap[b]? = w.heap[b]?) : MapV mk w' k b n f := by
 obtain ⟨D,⟨es,c,h1,h2⟩,h3⟩ := h;exact ⟨D,⟨es,c,e.trans h1,h2⟩,h3⟩
theorem svcF_succ {S : List SvcD} (hn : (S.map SvcD.id).Nodup) (k : Nat) (hk : k < S.length) (id : Int) : svcF (S.take (k + 1)) id = if id = S[k].id then some S[k].val else svcF (S.take k) id := by
 unfold svcF;rw [take_snoc S k hk,List.find?_append];by_cases h : id = S[k].id
 ·subst h;rw [if_pos rfl]
  have h0 : (S.take k).find? (fun s => s.id == S[k].id) = none := by
   rw [List.find?_eq_none];intro s hs he;obtain ⟨i,hi,rfl⟩ := List.getElem_of_mem hs;have hik : i < k := (by rw [List.length_take] at hi; omega);have := List.pairwise_iff_getElem.1 (List.pairwise_map.1 hn) i k (by omega) hk hik;rw [List.getElem_take] at he;exact this (by simpa using he)
  rw [h0];simp
 ·rw [if_neg h];have h1 : (S[k].id == id) = false := by simp; exact fun e => h e.symm
  simp [h1]
theorem there_succ (S : List SvcD) (k : Nat) (hk : k < S.length) (id : Int) : thereB (S.take (k + 1)) id = (thereB (S.take k) id || S[k].id == id) := by
 unfold thereB;rw [take_snoc S k hk,List.any_append];simp
end Go.Proofs.YtoaiakhnnfbkdaaGreatDoor
