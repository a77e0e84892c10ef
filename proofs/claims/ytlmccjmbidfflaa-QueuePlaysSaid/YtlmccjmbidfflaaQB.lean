/-
  Regions that draw their order and whose callees only lay blocks (Ch0): walked once, in the text's order. General, of no program. Use:
    refine wp_region_quiet_below (by kernel_rfl) (by kernel_rfl) ?_ ; repeat (quiet_step (tac)) ; refine wpQuiet_nil ?_ ; intro _ hw' ; obtain ⟨⟨dq, osq⟩, hw''⟩ := hw' ; subst hw''
  at a call: tac = 'exact quietB (contract)'; cells: facts by 'cellB'.
-/
import Derived.Test.YtlmccjmbidfflaaFrame
import Derived.Lib.QuietBelow
namespace Go.Proofs.Ytlmccjmbidfflaa
set_option linter.unusedVariables false
open Go.RowKit Go.Sort

theorem chB (w : World) (d : Nat) (os : Array Obj) : Ch0 w (grow (redrawn w d) os) :=
  let h := below_regrown w d os
  ⟨h.os, h.tape, h.output, h.size, fun k hk _ => h.block k hk⟩

theorem belowB {w w' : World} (h : Ch0 w w') : Below w.heap.size w w' := ⟨h.os, h.tape, h.output, h.size, fun k hk => h.block k hk (fun e => e)⟩

theorem quietB {P : Program} {f : FuncId} {args : Array Value} {w : World} {d : Nat} {os : Array Obj} {v : Value}
    (h : Calls P f args (grow (redrawn w d) os) fun e w' => e = .returned v ∧ Ch0 (grow (redrawn w d) os) w') : Calls P f args (grow (redrawn w d) os) fun e w'' => e = .returned v ∧ ∃ p : Regrown, w'' = grow (redrawn w p.d) p.os :=
  Calls.regrown_of (h.mono fun _ _ ⟨he, hc⟩ => ⟨he, belowB hc⟩)

theorem cellB {w : World} {a : Addr} {v : Value} (h : w.cell? a = some v) : ∀ (d : Nat) (os : Array Obj), (grow (redrawn w d) os).cell? a = some v := fun d os => cell_regrown h d os

end Go.Proofs.Ytlmccjmbidfflaa
