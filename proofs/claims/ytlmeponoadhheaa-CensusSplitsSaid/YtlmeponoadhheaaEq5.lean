/-
  Rows compared, at an operation of a walk; in a drawn region too.
-/
import Derived.Test.YtlmeponoadhheaaCP
import Derived.Test.YtlmeponoadhheaaQuietTail
namespace Go.Proofs.Ytlmeponoadhheaa
set_option linter.unusedVariables false
open Go.RowKit

theorem run_neqR (r s : R5) (w : World) : (binOp .neq 110 r.val s.val).run Try.prog w = .ok (.bool (!(decide (r = s)))) w := by
  unfold R5.val
  obtain ⟨r0, r1, r2, r3, r4⟩ := r
  obtain ⟨s0, s1, s2, s3, s4⟩ := s
  simp [go_sem]
  repeat' split
  all_goals simp_all

theorem run_eqlR (r s : R5) (w : World) : (binOp .eql 110 r.val s.val).run Try.prog w = .ok (.bool (decide (r = s))) w := by
  unfold R5.val
  obtain ⟨r0, r1, r2, r3, r4⟩ := r
  obtain ⟨s0, s1, s2, s3, s4⟩ := s
  simp [go_sem]
  repeat' split
  all_goals simp_all

theorem run_eqlC (r s : R5) (w : World) : (binOp .eql 106 r.val s.val).run Try.prog w = .ok (.bool (decide (r = s))) w := by
  unfold R5.val
  obtain ⟨r0, r1, r2, r3, r4⟩ := r
  obtain ⟨s0, s1, s2, s3, s4⟩ := s
  simp [go_sem]
  repeat' split
  all_goals simp_all

section
variable {ops : Array Oper} {C : World → Prop} {Q : Act → Prop} {o : Oper} {rest : List Oper} {a : Act}

/-- an operation of which the run is known, in a quiet walk -/
theorem quiet_exec (hw : Region.wanted o (yielded ops a.tmps) = true) {v : Value} (hrun : ∀ w', (execOp a.eval o).run Try.prog w' = .ok (.value v) w') (hK : wpQuiet Try.prog ops C Q rest (a.put o.dst v)) : wpQuiet Try.prog ops C Q (o :: rest) a := by
  unfold wpQuiet
  rw [if_pos hw]
  refine ⟨v, fun w' e => ?_, hK⟩
  unfold Oper.quietAt
  rw [hrun w']
  exact ⟨rfl, rfl⟩

theorem exec_neqR (x y : Operand) (T : TypeId) {r s : R5} (hop : o.op = Op.binOp .neq 110 x y T) (hx : a.eval x = r.val) (hy : a.eval y = s.val) (w : World) : (execOp a.eval o).run Try.prog w = .ok (.value (.bool (!(decide (r = s))))) w := by
  unfold R5.val at *
  obtain ⟨r0, r1, r2, r3, r4⟩ := r
  obtain ⟨s0, s1, s2, s3, s4⟩ := s
  simp only [execOp, hop, hx, hy]
  simp [go_sem]
  repeat' split
  all_goals simp_all

theorem exec_eqlR (x y : Operand) (T : TypeId) {r s : R5} (hop : o.op = Op.binOp .eql 110 x y T) (hx : a.eval x = r.val) (hy : a.eval y = s.val) (w : World) : (execOp a.eval o).run Try.prog w = .ok (.value (.bool (decide (r = s)))) w := by
  unfold R5.val at *
  obtain ⟨r0, r1, r2, r3, r4⟩ := r
  obtain ⟨s0, s1, s2, s3, s4⟩ := s
  simp only [execOp, hop, hx, hy]
  simp [go_sem]
  repeat' split
  all_goals simp_all

theorem exec_eqlC (x y : Operand) (T : TypeId) {r s : R5} (hop : o.op = Op.binOp .eql 106 x y T) (hx : a.eval x = r.val) (hy : a.eval y = s.val) (w : World) : (execOp a.eval o).run Try.prog w = .ok (.value (.bool (decide (r = s)))) w := by
  unfold R5.val at *
  obtain ⟨r0, r1, r2, r3, r4⟩ := r
  obtain ⟨s0, s1, s2, s3, s4⟩ := s
  simp only [execOp, hop, hx, hy]
  simp [go_sem]
  repeat' split
  all_goals simp_all

end

end Go.Proofs.Ytlmeponoadhheaa
