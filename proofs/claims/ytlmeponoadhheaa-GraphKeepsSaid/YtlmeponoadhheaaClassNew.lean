/-
  class.New at whatever classes.
-/
import Derived.Test.YtlmeponoadhheaaRefClass3
namespace Go.Proofs.Ytlmeponoadhheaa
set_option linter.unusedVariables false
open Go.RowKit

/-- what New hands back -/
def NewT (w w' : World) (cs : List Cls) (v : Value) : Prop :=
  (newC cs = 0 ∧ ∃ p, v = .pointer (some ⟨p, 0, none⟩) ∧ Tab w.heap.size w'.heap.size w' p cs) ∨ (newC cs ≠ 0 ∧ v = .pointer none)

theorem newcls_any (D : Nat → Prop) (v : Value) (cs : List Cls) (w : World) (hv : SeesC D w v cs) (hf : Fit cs) :
    Calls Try.prog 30 #[v] w fun e w' => ∃ u, e = .returned (.tuple #[u, .int .i64 (newC cs)]) ∧ NewT w w' cs u ∧ Ch0 w w' := by
  by_cases hr : allRight cs = true
  · by_cases h64 : 64 ≤ cs.length
    · have e : newC cs = 3 := by unfold newC; rw [if_pos hr, if_pos h64]
      refine (new_full D v cs w hv hf hr h64).mono ?_
      rintro e w' ⟨rfl, hc⟩
      exact ⟨_, by rw [‹newC cs = 3›], .inr ⟨by omega, rfl⟩, hc⟩
    · have e : newC cs = 0 := by unfold newC; rw [if_pos hr, if_neg h64]
      refine (new_yes D v cs w hv hf hr (by omega)).mono ?_
      rintro e w' ⟨⟨p, rfl, ht⟩, hc⟩
      exact ⟨_, by rw [‹newC cs = 0›], .inl ⟨‹_›, p, rfl, ht⟩, hc⟩
  · have e : newC cs = 1 := by unfold newC; rw [if_neg hr]
    refine (new_wrong D v cs w hv hf (by simpa using hr)).mono ?_
    rintro e w' ⟨rfl, hc⟩
    exact ⟨_, by rw [‹newC cs = 1›], .inr ⟨by omega, rfl⟩, hc⟩

/-- A slice of one class that has just been laid. -/
theorem sees_one (c : Cls) (w : World) : SeesC (fun k => k = w.heap.size) (w.alloc (.cells #[.int .i64 c.kind, .int .i64 c.refs, .int .i64 c.data, .bool c.final] 40)) (.slice (some ⟨w.heap.size, 0, none⟩) 1 1) [c] := by
  refine ⟨rfl, _, 1, rfl, Nat.le_refl _, by decide, .inr ⟨w.heap.size, 0, rfl, rfl, fun i u hu => ?_⟩⟩
  rw [Nat.zero_add, cell_of_row _ w.heap.size i _ _ _ (heap_alloc_new w _)]
  simpa [Cls.cells] using hu

end Go.Proofs.Ytlmeponoadhheaa
