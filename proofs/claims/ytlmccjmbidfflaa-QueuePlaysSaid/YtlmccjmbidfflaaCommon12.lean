/-
  Words for the laws of queues that take bytes: slices of bytes; one queue alone.
-/
import Derived.Test.YtlmccjmbidfflaaMany12
import Derived.Test.YtlmccjmbidfflaaRename12b
import Derived.Test.YtlmccjmbidfflaaFM12
namespace Go.Proofs.Ytlmccjmbidfflaa
set_option linter.unusedVariables false
open Go.RowKit Go.ChangeShapes Go.WideShapes Go.ChangeAt

/-- a slice of bytes -/
abbrev SeesU (D : Nat → Prop) (w : World) (v : Value) (xs : List Int) : Prop := Sees D w v 1 xs.length (xs.map (Value.int .u8))

theorem cat_lone0 (xs : List Int) : cat (lone 0 xs) 4 = xs := by
  simp [cat, List.range_succ, lone, updF]

theorem lone_map (m : Nat) (xs : List Int) (N : Int → Int) : (fun i => (lone m xs i).map N) = lone m (xs.map N) := by
  funext i; unfold lone updF; split <;> simp

theorem quietEq {P : Program} {f : FuncId} {args : Array Value} {w : World} {n : Nat} {v : Value} (h : Calls P f args (w.drewN n) fun e w' => e = .returned v ∧ SameW (w.drewN n) w') :
    Calls P f args (w.drewN n) fun e w'' => e = .returned v ∧ ∃ m, w'' = w.drewN m := h.mono fun _ _ ⟨he, hw⟩ => ⟨he, n, (show w.drewN n = _ from hw).symm⟩

theorem nodup_length_le : ∀ {l1 l2 : List Int}, l1.Nodup → (∀ x ∈ l1, x ∈ l2) → l1.length ≤ l2.length
  | [], _, _, _ => Nat.zero_le _
  | a :: l1, l2, hn, hs => by
    have ha : a ∈ l2 := hs a (by simp)
    rw [List.nodup_cons] at hn
    have h1 := nodup_length_le (l1 := l1) (l2 := l2.erase a) hn.2 (fun x hx => by
      have hxa : x ≠ a := by rintro rfl; exact hn.1 hx
      exact (List.mem_erase_of_ne hxa).2 (hs x (by simp [hx])))
    rw [List.length_erase_of_mem ha] at h1
    have : 0 < l2.length := List.length_pos_of_mem ha
    simp; omega

end Go.Proofs.Ytlmccjmbidfflaa
