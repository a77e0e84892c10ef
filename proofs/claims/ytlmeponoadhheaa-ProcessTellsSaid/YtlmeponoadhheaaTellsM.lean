/-
  A map that tells of which numbers it is true (map[int]bool, read by m[k]).
-/
import Derived.Test.YtlmeponoadhheaaS3
namespace Go.Proofs.Ytlmeponoadhheaa
set_option linter.unusedVariables false
open Go.RowKit

/-- a map that tells of which numbers it is true -/
def TellsM (w : World) (r : Nat) (S : List Int) : Prop := ∃ n f, IM w r n f ∧ ∀ k, (f k).getD (.bool false) = .bool (decide (k ∈ S))

theorem TellsM.made (w : World) : TellsM (w.alloc (.map #[] 0)) w.heap.size [] := ⟨_, _, IM.made w, fun k => by simp⟩

theorem TellsM.lookup {w : World} {r : Nat} {S : List Int} (h : TellsM w r S) (k : Int) : (Instr.lookup 32 (.map (some r)) (.int .i64 k) false).run Try.prog w = .ok (.bool (decide (k ∈ S))) w := by
  obtain ⟨n, f, h1, h2⟩ := h
  have := h1.lookup (P := Try.prog) (t := 32) (kt := 3) (et := 4) (by kernel_rfl) Try.underlying3 (zeroBoolG w) k false
  simpa [h2 k] using this

theorem TellsM.update {w : World} {r : Nat} {S : List Int} (h : TellsM w r S) (x : Int) (b : Bool) (hb : b = false → x ∉ S) :
    ∃ w', (Instr.mapUpdate 32 (.map (some r)) (.int .i64 x) (.bool b)).run Try.prog w = .ok () w' ∧ TellsM w' r (if b = true then x :: S else S) ∧ Ch (fun i => i = r) w w' := by
  obtain ⟨n, f, h1, h2⟩ := h
  obtain ⟨w', hr, h3, h4, -⟩ := h1.update (P := Try.prog) (t := 32) (kt := 3) (et := 4) (by kernel_rfl) Try.underlying3 x (.bool b)
  refine ⟨w', hr, ⟨_, _, h3, fun k => ?_⟩, h4⟩
  unfold iput
  by_cases e : k = x
  · subst e
    cases b with
    | true => simp
    | false => simp [hb rfl]
  · have := h2 k
    cases b <;> simp [e, this]

theorem TellsM.keep {T : Nat → Prop} {w w' : World} {r : Nat} {S : List Int} (h : TellsM w r S) (c : Ch T w w') (hr : ¬ T r) : TellsM w' r S := by
  obtain ⟨n, f, h1, h2⟩ := h
  exact ⟨n, f, h1.keep c hr, h2⟩

end Go.Proofs.Ytlmeponoadhheaa
