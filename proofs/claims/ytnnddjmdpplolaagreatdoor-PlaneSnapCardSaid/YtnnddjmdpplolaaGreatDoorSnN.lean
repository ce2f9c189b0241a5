
/- Rows that are written through while a version stands. -/
import Derived.Test.YtnnddjmdpplolaaGreatDoorZss
namespace Go.Proofs.YtnnddjmdpplolaaGreatDoor
open Go.ChangeShapes Go.WideShapes Go.ChangeAt Go.RowKit Go.Lib Go.Shelf Go.Maps
/-- blocks of some types, from lo up to hi -/
def MutX (lo hi : Nat) (P : TypeId → Prop) (W : World) (q : Nat) : Prop := lo ≤ q ∧ q < hi ∧ ∃ cs t f, W.heap[q]? = some (.cells cs t f) ∧ P t
/-- only cells of such blocks were written -/
structure MutW (lo hi : Nat) (P : TypeId → Prop) (W w' : World) : Prop where
 k : Keeps (MutX lo hi P W) W w'
 b : ∀ (q : Nat) (cs : Array Value) (t : TypeId) (f : Nat × Nat), W.heap[q]? = some (.cells cs t f) → ∃ cs' : Array Value, w'.heap[q]? = some (.cells cs' t f) ∧ cs'.size = cs.size
section
variable {lo hi : Nat} {P : TypeId → Prop} {W w' : World}
theorem MutW.refl (lo hi : Nat) (P : TypeId → Prop) (W : World) : MutW lo hi P W W := ⟨Keeps.refl _ _, fun _ cs _ _ h => ⟨cs, h, rfl⟩⟩
theorem MutW.set (h : MutW lo hi P W w') {q : Nat} (hx : MutX lo hi P W q) (o : Nat) (u : Value) : MutW lo hi P W (w'.setCell ⟨q, o, none⟩ u) := by
 refine ⟨h.k.trans (Keeps.of_set w' q o u hx), fun q' cs t f h' => ?_⟩
 obtain ⟨cs', h1, h2⟩ := h.b q' cs t f h'
 by_cases e : q' = q
 ·subst e
  obtain ⟨c2, h3, h4⟩ := setCells_block q' t f [u] o w' cs' h1
  exact ⟨c2, h3, h4.trans h2⟩
 ·exact ⟨cs', (Below.heap_setCell w' ⟨q, o, none⟩ u q' e).trans h1, h2⟩
theorem notX {q : Nat} {cs : Array Value} {t : TypeId} {f : Nat × Nat} (h : W.heap[q]? = some (.cells cs t f)) (hn : ¬ P t) : ¬ MutX lo hi P W q := by
 rintro ⟨-, -, cs', t', f', h1, h2⟩
 rw [h] at h1
 cases h1
 exact hn h2
theorem MutW.any (h : MutW lo hi P W w') {base size g n cap : Nat} {e : TypeId} {xs : List Value} (ho : W.ownsRow base e size (.slice (some ⟨g, 0, none⟩) n cap) n xs) (k : Nat) (hk : k < n * size) : (∃ u, w'.cell? ⟨g, k, none⟩ = some u) ∧ w'.frozen? ⟨g, k, none⟩ = false := by
 rcases ho.2 with ⟨e0, _⟩ | ⟨g', cap', cur, e1, hb, hc, hn, hm, hs, ht⟩
 ·cases e0
 ·cases e1
  obtain ⟨cs', h1, h2⟩ := h.b g cur e (0, 0) hc
  have hlt : k < cs'.size := by
   rw [h2, hs]
   exact Nat.lt_of_lt_of_le hk (Nat.mul_le_mul_right _ hn)
  exact ⟨⟨cs'[k], by simp [World.cell?, h1, hlt]⟩, by simp [World.frozen?, h1]⟩
theorem MutX.of {size g n cap : Nat} {e : TypeId} {xs : List Value} (ho : W.ownsRow lo e size (.slice (some ⟨g, 0, none⟩) n cap) n xs) (hlt : g < hi) (he : P e) : MutX lo hi P W g := by
 rcases ho.2 with ⟨e0, _⟩ | ⟨g', cap', cur, e1, hb, hc, hn, hm, hs, ht⟩
 ·cases e0
 ·cases e1
  exact ⟨hb, hlt, cur, e, (0, 0), hc, he⟩
theorem MutW.conf {B : Nat} {c : ConfD} (h : MutW lo hi P W w') (ho : ConfOwn B W c) (hB : hi ≤ B) : ConfOwn B w' c := by
 have hx : ∀ {e : TypeId} {size n : Nat} {v : Value} {xs : List Value}, W.ownsRow B e size v n xs → w'.ownsRow B e size v n xs := fun h1 => owns_keeps h1 h.k fun g hg hx => by
  have := (h1.lt g hg).1
  have := hx.2.1
  omega
 exact ⟨hx ho.s, fun s hs => hx (ho.k s hs), hx ho.e, hx ho.r, fun r hr => ⟨hx (ho.rr r hr).1, hx (ho.rr r hr).2.1, hx (ho.rr r hr).2.2.1, hx (ho.rr r hr).2.2.2⟩, hx ho.t⟩
theorem MutW.box {b : Nat} {c : ConfD} (h : MutW lo hi P W w') (hb : BoxC W b c) (hP : ¬ P 33) : BoxC w' b c := (h.k.block b hb.lt (notX hb hP)).trans hb
theorem MutW.cell (h : MutW lo hi P W w') {base size n : Nat} {e : TypeId} {v : Value} {xs : List Value} (ho : W.ownsRow base e size v n xs) {g : Nat} (hg : v.ownBlock = some g) (hP : ¬ P e) (o : Nat) : w'.cell? ⟨g, o, none⟩ = W.cell? ⟨g, o, none⟩ := by
 obtain ⟨cs, fz, hc⟩ := ownsRow_kind ho g hg
 exact h.k.cell (p := ⟨g, o, none⟩) (ho.lt g hg).2 (notX hc hP)
end
/-- the services' lists stand where they stood -/
def KvS (w : World) (g : Nat) (S : List SvcD) : Prop := ∀ j (hj : j < S.length), w.cell? ⟨g, j * 7 + 1, none⟩ = some S[j].kv
theorem KvS.far {w : World} {g : Nat} {S : List SvcD} (h : KvS w g S) {q : Nat} (hq : q ≠ g) (o : Nat) (u : Value) : KvS (w.setCell ⟨q, o, none⟩ u) g S := fun j hj => (World.cell?_setCell_far w ⟨q, o, none⟩ ⟨g, j * 7 + 1, none⟩ u hq).trans (h j hj)
theorem KvS.work {w : World} {g : Nat} {S : List SvcD} (h : KvS w g S) (i : Nat) (u : Value) : KvS (w.setCell ⟨g, i * 7 + 2, none⟩ u) g S := fun j hj => (World.cell?_setCell_other w ⟨g, i * 7 + 2, none⟩ ⟨g, j * 7 + 1, none⟩ u (fun e => by
 simp only [Addr.mk.injEq, true_and, and_true] at e
 omega)).trans (h j hj)
theorem svcAt_self {S : List SvcD} (hn : (S.map SvcD.id).Nodup) (i : Nat) (hi : i < S.length) : svcAt S S[i].id = S[i] := by
 unfold svcAt
 cases h : S.find? (fun s => s.id == S[i].id) with
 | none => exact absurd (by simp) (List.find?_eq_none.1 h S[i] (List.getElem_mem hi))
 | some t =>
  have h1 := List.find?_some h
  have h2 := List.mem_of_find?_eq_some h
  exact svc_one hn h2 (List.getElem_mem hi) (by simpa using h1)
theorem gen_svcs {c : ConfD} {L : List Int} (h : c.core = genC L) : 0 < c.S.length := by
 have h1 : c.S.map SvcD.core = svcsN L (svcsM L) := by
  have : c.core.S = (genC L).S := by rw [h]
  exact this
 have h2 := congrArg List.length h1
 rw [List.length_map, svcsN_len] at h2
 have := svcsM_bd L
 omega
end Go.Proofs.YtnnddjmdpplolaaGreatDoor
