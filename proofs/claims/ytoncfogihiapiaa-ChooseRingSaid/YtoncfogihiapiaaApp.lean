
/- 'append' of a slice that may be nil, to a row of the call's own. -/
import Derived.Test.YtoncfogihiapiaaRingK
namespace Go.Proofs.Ytoncfogihiapiaa
open Go.ChangeShapes Go.WideShapes Go.ChangeAt Go.RowKit Go.Sort Go.Shelf
/-- a slice whose cells read so: nil, or with cells -/
def SrcI (w : World) (xv : Value) (I : List Int) : Prop := (xv = .slice none 0 0 ∧ I = []) ∨ ∃ ad c, xv = .slice (some ad) I.length c ∧ Ints w (.slice (some ad) I.length c) I
theorem SrcI.ext {w w' : World} {xv : Value} {I : List Int} (h : SrcI w xv I) (e : Ext w w') : SrcI w' xv I := by
  rcases h with h | ⟨ad, c, h1, h2⟩
  · exact .inl h
  · exact .inr ⟨ad, c, h1, h2.ext e⟩
theorem srcI_own {w : World} {base : Nat} {v : Value} {n : Nat} {zs : List Int} (h : w.ownsRow base 3 1 v n (zs.flatMap encI)) (hl : zs.length ≤ 9223372036854775807) : SrcI w v zs := by
  have hn : zs.length = n := by simpa [flat_encI] using h.1
  have hi := own_ints h hl
  rcases h.2 with ⟨rfl, h0⟩ | ⟨g, cap, cur, rfl, _⟩
  · exact .inl ⟨rfl, List.eq_nil_of_length_eq_zero (by omega)⟩
  · subst hn; exact .inr ⟨_, _, rfl, hi⟩
theorem wpList_append_src {P : Program} {w : World} {ops : Array Oper} {rest : List Oper} {o : Oper} {a : Act} {Q : Exit → Act → World → Prop} (hgd : o.guard = none) (s x : Operand) (t : TypeId)
    (ho : o.op = .call { callee := .builtin .append, args := #[s, x], argTypes := #[t, t] })
    (base : Nat) (e : TypeId) (i : TypeInfo) (bytes : Nat) (ht : P.underlying t = some (.slice e)) (hi : P.info? e = some i) (hz : i.zero = some (.int .i64 0))
    (hsize : i.size = 1) (hby : i.bytes = bytes)
    (v : Value) (n : Nat) (xs : List Value) (hs : a.eval s = v) (hown : w.ownsRow base e 1 v n xs)
    (xv : Value) (I : List Int) (hx : a.eval x = xv) (hsrc : SrcI w xv I)
    (h63 : n + I.length ≤ maxLen) (hbytes : (n + I.length) * bytes ≤ 140737488355328) (hbase : base ≤ w.heap.size)
    (h : ∀ v' w', w'.ownsRow base e 1 v' (n + I.length) (xs ++ I.flatMap encI) → w.grownBy w' v.ownBlock → wpList P ops Q rest (a.put o.dst v') w') : wpList P ops Q (o :: rest) a w := by
  rcases hsrc with ⟨rfl, rfl⟩ | ⟨ad, c, rfl, hI⟩
  · refine wpList_plain hgd fun K hK => ?_
    have hr := run_append_owned_none (P := P) (w := w) base t o.type e i 1 ht hi v n xs hown
    unfold Oper.wp execOp
    simp only [ho, resolve, invoke, builtin, Sem.run_bind, Sem.run_pure, Result.andThen_ok, List.map_toArray, List.map_cons, List.map_nil, hs, hx, hr]
    exact hK _ _ (h v w (by simpa using hown) ⟨rfl, rfl, rfl, Nat.le_refl _, fun _ _ _ => rfl⟩)
  · exact wpList_append_own w hgd s x t ho base e i (.int .i64 0) 1 bytes ht hi hz hsize hby rfl (by decide) v n xs hs hown ad I.length c (I.flatMap encI) hx (length_flatMap_enc encI_len I) (hI.news encI_len (by decide))
      (by rw [flat_encI]; intro u hu; obtain ⟨y, _, rfl⟩ := List.mem_map.1 hu; rfl) h63 hbytes hbase (fun v' w' h1 h2 _ => h v' w' h1 h2)
end Go.Proofs.Ytoncfogihiapiaa
