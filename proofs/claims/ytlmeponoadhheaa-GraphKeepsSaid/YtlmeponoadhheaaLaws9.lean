/-
  Words for the laws of graphs: a map aside; bytes; a node's copy.
-/
import Derived.Test.YtlmeponoadhheaaPlay9
import Derived.Test.YtlmeponoadhheaaRSame
import Derived.Test.YtlmeponoadhheaaRefClass2
import Derived.Test.YtlmeponoadhheaaClassArg
import Derived.Test.YtlmeponoadhheaaAwake9
namespace Go.Proofs.Ytlmeponoadhheaa
set_option linter.unusedVariables false
open Go.RowKit

theorem Aside.im {w : World} {O : Nat → Prop} {r n : Nat} {f : Int → Option Value} (h : IM w r n f) (hO : ¬ O r) : Aside w O (fun k => k = r) (fun w => IM w r n f) where
  x := h
  k := fun _ _ _ c hS x => x.keep c (hS r rfl)
  off := fun k hk => by rw [hk]; exact hO
  lt := fun k hk => by rw [hk]; exact h.lt

theorem Gt.small {w : World} {b : Nat} {O : Nat → Prop} {cs : List Cls} {L : List GN} {p lo hi : Nat} (h : Gt w b O cs L p lo hi) : ∀ k, O k → k < w.heap.size := h.g.small

abbrev SeesU9 (D : Nat → Prop) (w : World) (v : Value) (xs : List Int) : Prop := Sees D w v 1 xs.length (xs.map (Value.int .u8))

theorem newC_zero {cs : List Cls} (h : newC cs = 0) : allRight cs = true ∧ cs.length < 64 := by
  unfold newC at h
  split at h
  · split at h
    · omega
    · rename_i e1 e2; exact ⟨e1, by omega⟩
  · omega

/-- what class.New hands back where the classes are right -/
theorem newT_zero {w w' : World} {cs : List Cls} {v : Value} (h : NewT w w' cs v) (h0 : newC cs = 0) : ∃ p, v = .pointer (some ⟨p, 0, none⟩) ∧ Tab w.heap.size w'.heap.size w' p cs := by
  rcases h with ⟨_, p, h1, h2⟩ | ⟨h1, _⟩
  · exact ⟨p, h1, h2⟩
  · exact absurd h0 h1

theorem quietE {P : Program} {f : FuncId} {args : Array Value} {w : World} {n : Nat} {v : Value} (h : Calls P f args (w.drewN n) fun e w' => e = .returned v ∧ SameW (w.drewN n) w') :
    Calls P f args (w.drewN n) fun e w'' => e = .returned v ∧ ∃ m, w'' = w.drewN m := h.mono fun _ _ ⟨he, hw⟩ => ⟨he, n, (show w.drewN n = _ from hw).symm⟩

end Go.Proofs.Ytlmeponoadhheaa
