/-
  The head of the program's order of starting, read as a list of letters by a lemma: left to the kernel as a string it takes 14 GB in a round of 25 statements.
-/
import Derived.Test.YtlmeponoadhheaaGen
namespace Go.Proofs.Ytlmeponoadhheaa
set_option linter.unusedVariables false
open Go

set_option maxRecDepth 1000000 in
theorem order_cut : (behindMainWord (wordsSigns Try.pinned.checked.prog.initOrder.toList)).head? = some ['c','u','t'] := by
  have e := (congrArg String.toList (show Try.pinned.checked.prog.initOrder = String.ofList _ from rfl)).trans String.toList_ofList
  rw [e]
  change _ = some ['c','u','t']
  kernel_rfl

theorem order_words : ∃ r, behindMainWord (wordsSigns Try.pinned.checked.prog.initOrder.toList) = ['c','u','t'] :: r := by
  cases h : behindMainWord (wordsSigns Try.pinned.checked.prog.initOrder.toList) with
  | nil => have := order_cut; rw [h] at this; cases this
  | cons a l => have := order_cut; rw [h] at this; cases this; exact ⟨l, rfl⟩

theorem strip_cut (r : List (List Char)) : stripLifts liftWords (['c','u','t'] :: r) = ([], ['c','u','t'] :: r) := rfl

theorem headLifts_of {P : Program} {r : List (List Char)} (hr : behindMainWord (wordsSigns P.initOrder.toList) = ['c','u','t'] :: r) : P.headLifts = [] := by
  unfold Program.headLifts
  rw [hr, strip_cut]
  rfl

theorem liftsFinal_of {P : Program} {r : List (List Char)} (hr : behindMainWord (wordsSigns P.initOrder.toList) = ['c','u','t'] :: r) : P.liftsFinal = false := by
  unfold Program.liftsFinal
  rw [hr, headLifts_of hr]
  rfl

theorem make_of {P : Program} {r : List (List Char)} (hr : behindMainWord (wordsSigns P.initOrder.toList) = ['c','u','t'] :: r) : P.make = some .cut := by
  unfold Program.make
  rw [hr]
  rfl

theorem mayEnter_of {P : Program} {r : List (List Char)} (hr : behindMainWord (wordsSigns P.initOrder.toList) = ['c','u','t'] :: r) (h1 : P.laysLater = false) (h2 : P.bearsReflect = false) (h3 : P.doorRows = []) : P.mayEnter = true := by
  unfold Program.mayEnter
  rw [hr, h1, h2]
  show (_ || _ || (_ && _ && _ && _ && P.doorFits [])) = true
  unfold Program.doorFits
  rw [h3]
  rfl

theorem lays_is : Try.pinned.checked.prog.laysLater = false := by kernel_rfl
theorem bears_is : Try.pinned.checked.prog.bearsReflect = false := by kernel_rfl
theorem rows_is : Try.pinned.checked.prog.doorRows = [] := by kernel_rfl
theorem liftsFinal_is : Try.pinned.checked.prog.liftsFinal = false := order_words.elim fun _ h => liftsFinal_of h
theorem make_is : Try.pinned.checked.prog.make = some .cut := order_words.elim fun _ h => make_of h
theorem mayEnter_is : Try.pinned.checked.prog.mayEnter = true := order_words.elim fun _ h => mayEnter_of h lays_is bears_is rows_is

end Go.Proofs.Ytlmeponoadhheaa
