/-
  A block of slices of integers, each a row of its own ([][]int, a struct of slices). General, but for the type int.
-/
import Derived.Test.YtlmccjmbidfflaaInts
namespace Go.Proofs.Ytlmccjmbidfflaa
set_option linter.unusedVariables false
open Go.RowKit

def updF {α : Type} (q : Nat → α) (i : Nat) (x : α) : Nat → α := fun j => if j = i then x else q j
theorem updF_same {α : Type} (q : Nat → α) (i : Nat) (x : α) : updF q i x i = x := by simp [updF]
theorem updF_other {α : Type} (q : Nat → α) (i : Nat) (x : α) {j : Nat} (h : j ≠ i) : updF q i x j = q j := by simp [updF, h]

/-- Block g holds n slices of integers; the i-th reads as q i; O: the blocks that are its own. -/
structure RS (w : World) (g : Nat) (T : TypeId) (n : Nat) (O : Nat → Prop) (q : Nat → List Int) (vs : Nat → Value) : Prop where
  blk : w.heap[g]? = some (.cells ((List.range n).map vs).toArray T (0, 0))
  own : O g
  small : ∀ k, O k → k < w.heap.size
  row : ∀ i, i < n → RowAt w 3 1 (vs i) (q i).length ((q i).map (Value.int .i64))
  rowO : ∀ i, i < n → ∀ k, rblk (vs i) = some k → O k ∧ k ≠ g
  apart : ∀ i j, i < n → j < n → i ≠ j → ∀ k, rblk (vs i) = some k → rblk (vs j) ≠ some k

/-- what a call may do to an object: only its own blocks turn, and what is its own then was its own, or is new -/
def Turn (w w' : World) (O O' : Nat → Prop) : Prop := Ch O w w' ∧ ∀ k, O' k → O k ∨ w.heap.size ≤ k

/-- two objects share no block -/
def Apart (O O' : Nat → Prop) : Prop := ∀ k, O k → O' k → False

theorem Apart.symm {O O' : Nat → Prop} (h : Apart O O') : Apart O' O := fun k a b => h k b a

theorem Apart.turn {w w' : World} {O O1 O' : Nat → Prop} (h : Apart O O') (t : Turn w w' O O1) (hs : ∀ k, O' k → k < w.heap.size) : Apart O1 O' := fun k a b => by
  rcases t.2 k a with e | e
  · exact h k e b
  · have := hs k b; omega

theorem Turn.refl (w : World) (O : Nat → Prop) : Turn w w O O := ⟨Ch.refl _ _, fun _ h => .inl h⟩

theorem Turn.of0 {w w' : World} (O : Nat → Prop) (h : Ch0 w w') : Turn w w' O O := ⟨h.of0, fun _ h => .inl h⟩

theorem Turn.trans {w w1 w2 : World} {O O1 O2 : Nat → Prop} (h : Turn w w1 O O1) (k : Turn w1 w2 O1 O2) : Turn w w2 O O2 := by
  have hs := h.1.size
  refine ⟨⟨k.1.os.trans h.1.os, k.1.tape.trans h.1.tape, k.1.output.trans h.1.output, Nat.le_trans h.1.size k.1.size, fun j hj hn => ?_⟩, fun j hj => ?_⟩
  · rw [k.1.block j (Nat.lt_of_lt_of_le hj hs) (fun q => ?_), h.1.block j hj hn]
    rcases h.2 j q with q | q
    · exact hn q
    · omega
  · rcases k.2 j hj with q | q
    · exact h.2 j q
    · right; omega

theorem Turn.after {w w1 w2 : World} {O O' : Nat → Prop} (h : Turn w w1 O O') (c : Ch0 w1 w2) : Turn w w2 O O' := ⟨h.1.trans0 c, h.2⟩

/-- of what was there before the object nothing is turned -/
theorem Ch0.turn {w w1 w2 : World} {O O' : Nat → Prop} (h : Ch0 w w1) (t : Turn w1 w2 O O') (hO : ∀ k, O k → w.heap.size ≤ k) : Ch0 w w2 ∧ ∀ k, O' k → w.heap.size ≤ k := by
  have hs := h.size
  refine ⟨h.trans' t.1 (fun _ _ e => e) (fun k hk e => ?_), fun k hk => ?_⟩
  · have := hO k e; omega
  · rcases t.2 k hk with e | e
    · exact hO k e
    · omega

theorem cells_range {n : Nat} (vs : Nat → Value) (i : Nat) (hi : i < n) : (((List.range n).map vs).toArray)[i]? = some (vs i) := by
  simp [hi]

theorem range_set {n : Nat} (vs : Nat → Value) (i : Nat) (v : Value) : (((List.range n).map vs).toArray).setIfInBounds i v = ((List.range n).map (updF vs i v)).toArray := by
  apply Array.ext
  · simp
  · intro j h1 h2
    simp only [List.size_toArray, List.length_map, List.length_range] at h2
    simp only [List.getElem_toArray, List.getElem_map, List.getElem_range, updF]
    by_cases h : i = j
    · subst h; simp
    · simp [h, Ne.symm h]

section
variable {w : World} {g : Nat} {T : TypeId} {n : Nat} {O : Nat → Prop} {q : Nat → List Int} {vs : Nat → Value}

theorem RS.cell (h : RS w g T n O q vs) {i : Nat} (hi : i < n) : w.cell? ⟨g, i, none⟩ = some (vs i) := by
  rw [cell_of_row w g i _ _ _ h.blk, cells_range vs i hi]

theorem RS.free (h : RS w g T n O q vs) (i : Nat) : w.frozen? ⟨g, i, none⟩ = false := frozen_of_row w g i _ _ h.blk

theorem RS.keep {w' : World} {S : Nat → Prop} (h : RS w g T n O q vs) (c : Ch S w w') (hn : ∀ k, O k → ¬ S k) : RS w' g T n O q vs where
  blk := c.keep h.blk (hn g h.own)
  own := h.own
  small := fun k hk => Nat.lt_of_lt_of_le (h.small k hk) c.size
  row := fun i hi => (h.row i hi).keep c (fun k hk => hn k (h.rowO i hi k hk).1)
  rowO := h.rowO
  apart := h.apart

theorem RS.ne_row (h : RS w g T n O q vs) {i : Nat} (hi : i < n) : rblk (vs i) ≠ some g := fun e => (h.rowO i hi g e).2 rfl

/-- one row is other -/
theorem RS.turn {w4 : World} (h : RS w g T n O q vs) {i : Nat} (hi : i < n) {v' : Value} {xs : List Int}
    (c : Ch (fun k => rblk (vs i) = some k) w w4) (hrow : RowAt w4 3 1 v' xs.length (xs.map (Value.int .i64))) (hv : rblk v' = rblk (vs i) ∨ rblk v' = none ∨ ∃ k, rblk v' = some k ∧ w.heap.size ≤ k) :
    RS (w4.setCell ⟨g, i, none⟩ v') g T n (fun k => O k ∨ rblk v' = some k) (updF q i xs) (updF vs i v') ∧ Turn w (w4.setCell ⟨g, i, none⟩ v') O (fun k => O k ∨ rblk v' = some k) := by
  have hblk4 := c.keep h.blk (h.ne_row hi)
  have hsz := c.size
  have hlt := h.small g h.own
  have hbv : ∀ k, rblk v' = some k → k ≠ g := by
    intro k hk
    rcases hv with e | e | ⟨k', e, hge⟩
    · rw [e] at hk; exact (h.rowO i hi k hk).2
    · rw [e] at hk; cases hk
    · rw [e] at hk; cases hk; omega
  have cset : Ch (fun k => k = g) w4 (w4.setCell ⟨g, i, none⟩ v') := Ch.setCell (S := fun k => k = g) (Ch.refl _ _) (p := ⟨g, i, none⟩) (fun _ => rfl) _
  refine ⟨⟨?_, .inl h.own, ?_, ?_, ?_, ?_⟩, ?_, ?_⟩
  · rw [heap_setCell_same w4 g i _ _ _ hblk4, range_set]
  · rintro k (hk | hk)
    · have := h.small k hk
      simp [World.setCell]; omega
    · have := hrow.lt hk
      simpa [World.setCell] using this
  · intro j hj
    by_cases hji : j = i
    · subst hji
      rw [updF_same, updF_same]
      exact hrow.keep cset (fun k hk e => hbv k hk e)
    · rw [updF_other _ _ _ hji, updF_other _ _ _ hji]
      exact ((h.row j hj).keep c (fun k hk e => h.apart j i hj hi hji k hk e)).keep cset (fun k hk e => h.ne_row hj (e ▸ hk))
  · intro j hj k hk
    by_cases hji : j = i
    · subst hji; rw [updF_same] at hk; exact ⟨.inr hk, hbv k hk⟩
    · rw [updF_other _ _ _ hji] at hk; exact ⟨.inl (h.rowO j hj k hk).1, (h.rowO j hj k hk).2⟩
  · have key : ∀ j, j < n → j ≠ i → ∀ k, rblk (vs j) = some k → rblk v' ≠ some k := by
      intro j hj hji k hk e
      rcases hv with e1 | e1 | ⟨k', e1, hge⟩
      · rw [e1] at e; exact h.apart j i hj hi hji k hk e
      · rw [e1] at e; cases e
      · rw [e1] at e; cases e
        have := (h.row j hj).lt hk
        omega
    intro j1 j2 h1 h2 hne k hk
    by_cases hj1 : j1 = i
    · subst hj1
      rw [updF_same] at hk
      rw [updF_other _ _ _ (Ne.symm hne)]
      intro e
      exact key j2 h2 (Ne.symm hne) k e hk
    · rw [updF_other _ _ _ hj1] at hk
      by_cases hj2 : j2 = i
      · subst hj2
        rw [updF_same]
        exact key j1 h1 hj1 k hk
      · rw [updF_other _ _ _ hj2]
        exact h.apart j1 j2 h1 h2 hne k hk
  · refine c.trans' cset (fun k _ e => (h.rowO i hi k e).1) ?_
    rintro k _ rfl; exact h.own
  · rintro k (hk | hk)
    · exact .inl hk
    · rcases hv with e1 | e1 | ⟨k', e1, hge⟩
      · rw [e1] at hk; exact .inl (h.rowO i hi k hk).1
      · rw [e1] at hk; cases hk
      · rw [e1] at hk; cases hk; exact .inr hge

end

/-- a block of nil slices, just made -/
theorem rs_new {w : World} {g : Nat} {T : TypeId} {n : Nat} (h : w.heap[g]? = some (.cells ((List.range n).map (fun _ => .slice none 0 0)).toArray T (0, 0))) :
    RS w g T n (fun k => k = g) (fun _ => []) (fun _ => .slice none 0 0) := by
  refine ⟨h, rfl, ?_, fun i hi => RowAt.nil, fun i hi k hk => (by cases hk), fun i j _ _ _ k hk => (by cases hk)⟩
  rintro k rfl; exact lt_of_block h

end Go.Proofs.Ytlmccjmbidfflaa
