/-
  A still walk by way of a quiet one: general, of no program.
-/
import Derived.Test.YtlmeponoadhheaaGen
import Derived.StillTailTactics
namespace Go.Proofs.Ytlmeponoadhheaa
set_option linter.unusedVariables false

theorem still_of_quiet {P : Program} {ops : Array Oper} {w1 : World} {Q : Act → Prop} : ∀ (l : List Oper) (a : Act), wpQuiet P ops (fun w' => w' = w1) Q l a → wpStill P ops w1 Q l a := by
  intro l
  induction l with
  | nil => intro a h; exact h
  | cons o rest ih =>
    intro a h
    unfold wpQuiet at h
    unfold wpStill
    by_cases hw : Region.wanted o (yielded ops a.tmps) = true
    · rw [if_pos hw] at h ⊢
      obtain ⟨v, h1, h2⟩ := h
      have h3 := h1 w1 rfl
      unfold Oper.quietAt at h3
      unfold Oper.still
      generalize (execOp a.eval o).run P w1 = r at *
      cases r with
      | halt x w' => exact h3.elim
      | ok n w' =>
        cases n with
        | value u => obtain ⟨q1, q2⟩ := h3; subst q2; exact ⟨q1, ih _ h2⟩
        | skip => obtain ⟨q1, q2⟩ := h3; subst q2; exact ⟨q1, ih _ h2⟩
        | enter f args => obtain ⟨q1, q2⟩ := h3; exact ⟨q1, v, q2, ih _ h2⟩
        | _ => exact h3.elim
    · rw [if_neg hw] at h ⊢
      exact ih _ h

/-- one lookup of a quiet walk -/
theorem quiet_lookup {P : Program} {ops : Array Oper} {w1 : World} {Q : Act → Prop} {o : Oper} {rest : List Oper} {a : Act} (hg : o.guard = none) (m x : Operand) (t : TypeId) {c : Bool} (hop : o.op = Op.lookup t m x c) {mv key v : Value} (hm : a.eval m = mv) (hx : a.eval x = key)
    (hrun : (Instr.lookup t mv key c).run P w1 = .ok v w1) (hK : wpQuiet P ops (fun w' => w' = w1) Q rest (a.put o.dst v)) : wpQuiet P ops (fun w' => w' = w1) Q (o :: rest) a := by
  have hw : Region.wanted o (yielded ops a.tmps) = true := by unfold Region.wanted; simp [hg]
  unfold wpQuiet
  rw [if_pos hw]
  refine ⟨v, fun w' e => ?_, hK⟩
  subst e
  unfold Oper.quietAt
  simp [execOp, hop, hm, hx, hrun, Result.andThen, Oper.quietUpon]

end Go.Proofs.Ytlmeponoadhheaa
