/-
  What lies aside of an object: facts on other blocks, that outlive the object's turns. General, of no program.
-/
import Derived.Test.YtlmccjmbidfflaaRowsIn
namespace Go.Proofs.Ytlmccjmbidfflaa
set_option linter.unusedVariables false
open Go.RowKit

theorem turn_ch0 {w0 w w' : World} {O O' : Nat → Prop} (t : Turn w w' O O') (c : Ch0 w0 w) (f : ∀ k, O k → w0.heap.size ≤ k) : Ch0 w0 w' ∧ ∀ k, O' k → w0.heap.size ≤ k := Ch0.turn c t f

/-- X speaks of the blocks of D alone; these are not the object's. -/
structure Aside (w : World) (O D : Nat → Prop) (X : World → Prop) : Prop where
  x : X w
  k : ∀ (w w' : World) (S : Nat → Prop), Ch S w w' → (∀ k, D k → ¬ S k) → X w → X w'
  off : ∀ k, D k → ¬ O k
  lt : ∀ k, D k → k < w.heap.size

section
variable {w w' : World} {O O' D D' : Nat → Prop} {X Y : World → Prop}

theorem Aside.turn (h : Aside w O D X) (t : Turn w w' O O') : Aside w' O' D X where
  x := h.k _ _ _ t.1 h.off h.x
  k := h.k
  off := fun k hk e => by
    rcases t.2 k e with e | e
    · exact h.off k hk e
    · have := h.lt k hk; omega
  lt := fun k hk => Nat.lt_of_lt_of_le (h.lt k hk) t.1.size

theorem Aside.chg {S : Nat → Prop} (h : Aside w O D X) (c : Ch S w w') (hS : ∀ k, D k → ¬ S k) : Aside w' O D X where
  x := h.k _ _ _ c hS h.x
  k := h.k
  off := h.off
  lt := fun k hk => Nat.lt_of_lt_of_le (h.lt k hk) c.size

theorem Aside.new (h : Aside w O D X) (c : Ch0 w w') : Aside w' O D X := h.chg c (fun _ _ e => e)

theorem Aside.and (h : Aside w O D X) (g : Aside w O D' Y) : Aside w O (fun k => D k ∨ D' k) (fun w => X w ∧ Y w) where
  x := ⟨h.x, g.x⟩
  k := fun w w' S c hS x => ⟨h.k w w' S c (fun k hk => hS k (.inl hk)) x.1, g.k w w' S c (fun k hk => hS k (.inr hk)) x.2⟩
  off := fun k hk => hk.elim (h.off k) (g.off k)
  lt := fun k hk => hk.elim (h.lt k) (g.lt k)

theorem Aside.block {b : Nat} {o : Obj} (h : w.heap[b]? = some o) (hO : ¬ O b) : Aside w O (fun k => k = b) (fun w => w.heap[b]? = some o) where
  x := h
  k := fun w w' S c hS x => c.keep x (hS b rfl)
  off := fun k hk => by rw [hk]; exact hO
  lt := fun k hk => by rw [hk]; exact lt_of_block h

theorem Aside.row {e : TypeId} {size : Nat} {v : Value} {n : Nat} {xs : List Value} (h : RowAt w e size v n xs) (hO : ∀ k, rblk v = some k → ¬ O k) : Aside w O (fun k => rblk v = some k) (fun w => RowAt w e size v n xs) where
  x := h
  k := fun w w' S c hS x => x.keep c hS
  off := hO
  lt := fun k hk => h.lt hk

theorem Aside.mono (h : Aside w O D X) (hO : ∀ k, O' k → O k) : Aside w O' D X where
  x := h.x
  k := h.k
  off := fun k hk e => h.off k hk (hO k e)
  lt := h.lt

end

/-- an object that is the call's own -/
structure Mine (w0 w : World) (O : Nat → Prop) : Prop where
  ch : Ch0 w0 w
  f : ∀ k, O k → w0.heap.size ≤ k

theorem Mine.turn {w0 w w' : World} {O O' : Nat → Prop} (h : Mine w0 w O) (t : Turn w w' O O') : Mine w0 w' O' := by
  obtain ⟨a, b⟩ := turn_ch0 t h.ch h.f
  exact ⟨a, b⟩

theorem Mine.new {w0 w w' : World} {O : Nat → Prop} (h : Mine w0 w O) (c : Ch0 w w') : Mine w0 w' O := ⟨h.ch.trans c, h.f⟩

end Go.Proofs.Ytlmccjmbidfflaa
