/-
  How long a list of bytes that came in is at the most.
-/
import Derived.Test.YtlmeponoadhheaaWArg
import Derived.SizedLaws
import Derived.JoinedCond
namespace Go.Proofs.Ytlmeponoadhheaa
set_option linter.unusedVariables false
open Go.ChangeShapes Go.WideShapes Go.ChangeAt Go.RowKit

section
variable {H : Type} {enc : TypeId × Value → H}

theorem u8_read {W : World} {v : Value} {d : DataW H} {p : List MemPlace} {n : Nat} {xs : List Value} {D : Nat → Prop} (h : DataW.Trod enc Try.prog W 0 (fun _ => true) true 23 v d p) (hs : Sees D W v 1 n xs) : n = 0 ∨ ∃ e s, d = .slice e s ∧ e.length = n := by
  obtain ⟨fuel, hx⟩ := h
  obtain ⟨-, a, c, rfl, -, -, -⟩ := hs
  rcases Go.ChangeShapes.open_ints Try.underlying23 Try.underlying5 (by kernel_rfl) hx with ⟨hcs, -⟩ | ⟨a', len, cap, zs, hcs, -, hlc, -, hzl, hd, -, -⟩
  · simp [Value.cells] at hcs
    exact .inl hcs.2.1
  · simp [Value.cells] at hcs
    obtain ⟨-, rfl, rfl⟩ := hcs
    simp only [Prod.mk.injEq] at hd
    obtain ⟨rfl, -⟩ := hd
    refine .inr ⟨_, _, rfl, ?_⟩
    simp only [if_true] at hzl
    simp [Go.ChangeShapes.lits]
    omega

end

end Go.Proofs.Ytlmeponoadhheaa
