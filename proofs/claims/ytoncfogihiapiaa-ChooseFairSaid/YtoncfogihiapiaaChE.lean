/- choose.Pick: the map of ways. -/
import Derived.Test.YtoncfogihiapiaaChD
namespace Go.Proofs.Ytoncfogihiapiaa
open Go.ChangeShapes Go.WideShapes Go.ChangeAt Go.RowKit Go.Maps Go.Shelf
/-- a reading of three function values, and of none -/
theorem ways_read (F1 F2 F3 : Value) (h12 : F1 ≠ F2) (h13 : F1 ≠ F3) (h23 : F2 ≠ F3) (n1 : F1 ≠ .nilFunc) (n2 : F2 ≠ .nilFunc) (n3 : F3 ≠ .nilFunc) :
    ∃ R : Value → Option (DataW Nat × List MemPlace), R F1 = some (.lit (.int .i64 1), []) ∧ R F2 = some (.lit (.int .i64 2), []) ∧ R F3 = some (.lit (.int .i64 3), []) ∧ R .nilFunc = some (.lit (.int .i64 0), []) ∧
      (∀ v ps, R v = some (.lit (.int .i64 1), ps) → v = F1) ∧ (∀ v ps, R v = some (.lit (.int .i64 2), ps) → v = F2) ∧ (∀ v ps, R v = some (.lit (.int .i64 3), ps) → v = F3) ∧ (∀ v ps, R v = some (.lit (.int .i64 0), ps) → v = .nilFunc) := by
  refine ⟨fun v => @ite _ (v = F1) (Classical.propDecidable _) (some (.lit (.int .i64 1), [])) (@ite _ (v = F2) (Classical.propDecidable _) (some (.lit (.int .i64 2), [])) (@ite _ (v = F3) (Classical.propDecidable _) (some (.lit (.int .i64 3), [])) (@ite _ (v = .nilFunc) (Classical.propDecidable _) (some (.lit (.int .i64 0), [])) none))), ?_, ?_, ?_, ?_, ?_, ?_, ?_, ?_⟩
  · simp
  · simp [Ne.symm h12]
  · simp [Ne.symm h13, Ne.symm h23]
  · simp [Ne.symm n1, Ne.symm n2, Ne.symm n3]
  all_goals
    intro v ps h
    by_cases e1 : v = F1
    · simp [e1] at h <;> first | exact e1 | omega
    · by_cases e2 : v = F2
      · simp [e2, Ne.symm h12] at h <;> first | exact e2 | omega
      · by_cases e3 : v = F3
        · simp [e3, Ne.symm h13, Ne.symm h23] at h <;> first | exact e3 | omega
        · by_cases e4 : v = .nilFunc
          · simp [e4, Ne.symm n1, Ne.symm n2, Ne.symm n3] at h <;> first | exact e4 | omega
          · simp [e1, e2, e3, e4] at h
theorem wpList_insert_own {H : Type} {P : Program} (w : World) {ops : Array Oper} {rest : List Oper} {o : Oper} {a : Act} {Q : Exit → Act → World → Prop}
    (hg : o.guard = none) (m x v : Operand) (t : TypeId) (hop : o.op = Op.insert t m x v)
    (k e : TypeId) (K : Keyed P k) (ht : P.underlying t = some (.map k e)) (R : Value → Option (DataW H × List MemPlace)) (b n : Nat) (D : DataW H)
    (hm : a.eval m = .map (some b)) (hown : w.ownsMap P k R b n D) (hn : n < maxLen) (key val : Value) (kl : Lit) (hx : a.eval x = key) (hv : a.eval v = val) (hkey : keyOf P k key = some kl)
    (d : DataW H) (ps : List MemPlace) (hval : R val = some (d, ps))
    (hK : ∀ w', w'.ownsMap P k R b (n + 1) (D.put kl d) → w.grownBy w' (some b) → wpList P ops Q rest (a.put o.dst undef) w') :
    wpList P ops Q (o :: rest) a w := by
  refine wpList_plain hg fun K' hK' => ?_
  obtain ⟨w', hrun, r1, r2⟩ := hown.update K ht hn hkey hval
  unfold Oper.wp
  simp [execOp, hop, hm, hx, hv, hrun, Result.andThen]
  exact hK' _ _ (hK w' r1 r2)
theorem zeroF (w : World) : (zeroValue 57).run Try.prog w = .ok .nilFunc w := by kernel_rfl
theorem fn_ne (g h : Nat) (a b c d : Array Value) (hne : g ≠ h) : Value.func (.func g) a b ≠ .func (.func h) c d := fun e => by
  cases e; exact hne rfl
end Go.Proofs.Ytoncfogihiapiaa
