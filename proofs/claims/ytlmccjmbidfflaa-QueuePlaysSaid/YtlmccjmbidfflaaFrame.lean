/-
  Which blocks of memory a call may have changed ('Ch'), lists of integers in memory, slices that read as lists: general lemmas, of no program.
-/
import Derived.Test.YtlmccjmbidfflaaRows
import Derived.WalkKit
import Derived.WalkSpells
import Derived.WalkLawsBesides
import Derived.Deep.Draws
import Derived.Lib.Hide
namespace Go.Proofs.Ytlmccjmbidfflaa
set_option linter.unusedVariables false
open Go.RowKit

/-- 'Ch S w w'': of the blocks that stood in w only those of S may be other in w'. -/
structure Ch (S : Nat → Prop) (w w' : World) : Prop where
  os : w'.os = w.os
  tape : w'.tape = w.tape
  output : w'.output = w.output
  size : w.heap.size ≤ w'.heap.size
  block : ∀ k, k < w.heap.size → ¬ S k → w'.heap[k]? = w.heap[k]?

/-- nothing old is other -/
abbrev Ch0 (w w' : World) : Prop := Ch (fun _ => False) w w'

theorem Ch.refl (S : Nat → Prop) (w : World) : Ch S w w := ⟨rfl, rfl, rfl, Nat.le_refl _, fun _ _ _ => rfl⟩

theorem Ch.mono {S S' : Nat → Prop} {w w' : World} (h : Ch S w w') (hs : ∀ k, k < w.heap.size → S k → S' k) : Ch S' w w' :=
  ⟨h.os, h.tape, h.output, h.size, fun k hk hn => h.block k hk (fun q => hn (hs k hk q))⟩

theorem Ch.trans' {S S' S'' : Nat → Prop} {a b c : World} (h : Ch S a b) (k : Ch S' b c) (h1 : ∀ i, i < a.heap.size → S i → S'' i) (h2 : ∀ i, i < a.heap.size → S' i → S'' i) : Ch S'' a c :=
  ⟨k.os.trans h.os, k.tape.trans h.tape, k.output.trans h.output, Nat.le_trans h.size k.size, fun i hi hn =>
    (k.block i (Nat.lt_of_lt_of_le hi h.size) (fun q => hn (h2 i hi q))).trans (h.block i hi (fun q => hn (h1 i hi q)))⟩

theorem Ch.trans {S : Nat → Prop} {a b c : World} (h : Ch S a b) (k : Ch S b c) : Ch S a c := h.trans' k (fun _ _ q => q) (fun _ _ q => q)

theorem Ch.trans0 {S : Nat → Prop} {a b c : World} (h : Ch S a b) (k : Ch0 b c) : Ch S a c := h.trans' k (fun _ _ q => q) (fun _ _ q => q.elim)

theorem Ch.of0 {S : Nat → Prop} {a b : World} (h : Ch0 a b) : Ch S a b := h.mono (fun _ _ q => q.elim)

theorem Ch.alloc {S : Nat → Prop} {a w : World} (h : Ch S a w) (o : Obj) : Ch S a (w.alloc o) :=
  h.trans ⟨rfl, rfl, rfl, by simp, fun k hk _ => Below.heap_alloc _ _ _ (by omega)⟩

theorem Ch.setCell {S : Nat → Prop} {a w : World} (h : Ch S a w) {p : Addr} (hp : p.block < a.heap.size → S p.block) (u : Value) : Ch S a (w.setCell p u) := by
  refine h.trans' (S' := fun k => k = p.block) ⟨rfl, rfl, rfl, by simp [World.setCell], fun k _ hn => Below.heap_setCell _ _ _ _ hn⟩ (fun _ _ q => q) ?_
  rintro i hi rfl
  exact hp hi

theorem Ch.drewN {S : Nat → Prop} {a w : World} (h : Ch S a w) (n : Nat) : Ch S a (w.drewN n) :=
  h.trans ⟨rfl, rfl, rfl, Nat.le_refl _, fun _ _ _ => rfl⟩

theorem Ch.drew {S : Nat → Prop} {a w : World} (h : Ch S a w) : Ch S a w.drew :=
  h.trans ⟨rfl, rfl, rfl, Nat.le_refl _, fun _ _ _ => rfl⟩

theorem Ch.setRow {S : Nat → Prop} {a w : World} (h : Ch S a w) (g : Nat) (hp : g < a.heap.size → S g) (cs : Array Value) : Ch S a (w.setRow g cs) := by
  refine h.trans' (S' := fun k => k = g) ⟨rfl, rfl, rfl, by simp, fun k _ hn => setRow_other w g k cs hn⟩ (fun _ _ q => q) ?_
  rintro i hi rfl
  exact hp hi

theorem Ch.keep {S : Nat → Prop} {w w' : World} (h : Ch S w w') {k : Nat} {o : Obj} (hk : w.heap[k]? = some o) (hn : ¬ S k) : w'.heap[k]? = some o := by
  rw [h.block k (lt_of_block hk) hn]; exact hk

theorem Ch.cell {S : Nat → Prop} {w w' : World} (h : Ch S w w') {a : Addr} {v : Value} (hk : w.cell? a = some v) (hn : ¬ S a.block) : w'.cell? a = some v := by
  rw [World.cell?_of_block (h.block a.block (block_lt_of_cell hk) hn)]; exact hk

theorem Ch.of_grown {w w' : World} {row : Option Nat} (h : w.grownBy w' row) : Ch (fun k => row = some k) w w' :=
  ⟨h.os, h.tape, h.output, h.size, fun k hk hn => h.block k hk (fun e => hn e.symm)⟩

theorem Ch.below {B : Nat} {w w' : World} (h : Ch (fun k => B ≤ k) w w') (hB : B ≤ w.heap.size) : Below B w w' :=
  ⟨h.os, h.tape, h.output, h.size, fun k hk => h.block k (by omega) (by omega)⟩

/-- two worlds are one (behind a name that the walk's simp does not open) -/
def SameW (w w' : World) : Prop := w = w'
theorem SameW.rfl' (w : World) : SameW w w := rfl

/-- integers as a row of cells -/
def ints (xs : List Int) : Array Value := (xs.map (Value.int .i64)).toArray

theorem ints_size (xs : List Int) : (ints xs).size = xs.length := by simp [ints]

theorem ints_get (xs : List Int) (i : Nat) : (ints xs)[i]? = xs[i]?.map (Value.int .i64) := by simp [ints]

theorem ints_getD (xs : List Int) (i : Nat) (h : i < xs.length) : (ints xs)[i]? = some (.int .i64 (xs.getD i 0)) := by
  rw [ints_get]; simp [h]

theorem ints_set (xs : List Int) (i : Nat) (x : Int) : (ints xs).setIfInBounds i (.int .i64 x) = ints (xs.set i x) := by
  simp [ints, List.map_set]

theorem madeCells_zero (n : Nat) : madeCells (Value.int .i64 0).cells n = ints (List.replicate n 0) := by
  apply Array.ext
  · simp [madeCells, ints]
  · intro i h1 h2
    simp [madeCells, ints, Value.cells, Nat.mod_one]

theorem cell_ints {w : World} {b : Nat} {xs : List Int} {T : TypeId} (h : w.heap[b]? = some (.cells (ints xs) T (0, 0))) (i : Nat) (hi : i < xs.length) :
    w.cell? ⟨b, i, none⟩ = some (.int .i64 (xs.getD i 0)) := by
  rw [cell_of_row w b i _ _ _ h, ints_getD xs i hi]

theorem addr_add (b o i : Nat) : (⟨b, o, none⟩ : Addr).add i = ⟨b, o + i, none⟩ := by unfold Addr.add; split <;> simp_all

/-- A slice of n elements (size cells each) reads as the cells l; they lie in a block of D. -/
def Sees (D : Nat → Prop) (w : World) (v : Value) (size n : Nat) (l : List Value) : Prop :=
  l.length = n * size ∧ ∃ a c, v = .slice a n c ∧ n ≤ c ∧ c ≤ maxLen ∧ (n = 0 ∨ ∃ g o, D g ∧ a = some ⟨g, o, none⟩ ∧ ∀ i u, l[i]? = some u → w.cell? ⟨g, o + i, none⟩ = some u)

theorem Sees.keep {D S : Nat → Prop} {w w' : World} {v : Value} {size n : Nat} {l : List Value} (h : Sees D w v size n l) (hc : Ch S w w') (hd : ∀ k, D k → ¬ S k) : Sees D w' v size n l := by
  obtain ⟨h0, a, c, hv, hn, hm, hl⟩ := h
  refine ⟨h0, a, c, hv, hn, hm, hl.imp id ?_⟩
  rintro ⟨g, o, hg, ha, hi⟩
  exact ⟨g, o, hg, ha, fun i u hu => hc.cell (hi i u hu) (hd g hg)⟩

theorem Sees.mono {D D' : Nat → Prop} {w : World} {v : Value} {size n : Nat} {l : List Value} (h : Sees D w v size n l) (hd : ∀ k, D k → D' k) : Sees D' w v size n l := by
  obtain ⟨h0, a, c, hv, hn, hm, hl⟩ := h
  refine ⟨h0, a, c, hv, hn, hm, hl.imp id ?_⟩
  rintro ⟨g, o, hg, ha, hi⟩
  exact ⟨g, o, hd g hg, ha, hi⟩

abbrev SeesI (D : Nat → Prop) (w : World) (v : Value) (xs : List Int) : Prop := Sees D w v 1 xs.length (xs.map (Value.int .i64))

theorem SeesI.cell {D : Nat → Prop} {w : World} {v : Value} {xs : List Int} (h : SeesI D w v xs) (hp : 0 < xs.length) :
    ∃ g o c, D g ∧ v = .slice (some ⟨g, o, none⟩) xs.length c ∧ ∀ i, i < xs.length → w.cell? ⟨g, o + i, none⟩ = some (.int .i64 (xs.getD i 0)) := by
  obtain ⟨h0, a, c, hv, hn, hm, hl⟩ := h
  rcases hl with hl | ⟨g, o, hg, rfl, hi⟩
  · omega
  · exact ⟨g, o, c, hg, hv, fun i hlt => hi i _ (by simp [hlt])⟩

theorem Sees.cellF {D : Nat → Prop} {w : World} {v : Value} {f : Int → Value} {xs : List Int} (h : Sees D w v 1 xs.length (xs.map f)) (hp : 0 < xs.length) :
    ∃ g o c, D g ∧ v = .slice (some ⟨g, o, none⟩) xs.length c ∧ ∀ i, i < xs.length → w.cell? ⟨g, o + i, none⟩ = some (f (xs.getD i 0)) := by
  obtain ⟨h0, a, c, hv, hn, hm, hl⟩ := h
  rcases hl with hl | ⟨g, o, hg, rfl, hi⟩
  · omega
  · exact ⟨g, o, c, hg, hv, fun i hlt => hi i _ (by simp [hlt])⟩

theorem Sees.len {D : Nat → Prop} {w : World} {v : Value} {size n : Nat} {l : List Value} (h : Sees D w v size n l) : ∃ a c, v = .slice a n c ∧ n ≤ 9223372036854775807 := by
  obtain ⟨h0, a, c, hv, hn, hm, hl⟩ := h
  exact ⟨a, c, hv, by unfold maxLen at hm; omega⟩

theorem SeesI.len {D : Nat → Prop} {w : World} {v : Value} {xs : List Int} (h : SeesI D w v xs) : ∃ a c, v = .slice a xs.length c ∧ xs.length ≤ 9223372036854775807 := by
  obtain ⟨h0, a, c, hv, hn, hm, hl⟩ := h
  exact ⟨a, c, hv, by unfold maxLen at hm; omega⟩

theorem SeesI.nil {D : Nat → Prop} {w : World} : SeesI D w (.slice none 0 0) [] := ⟨rfl, none, 0, rfl, Nat.le_refl _, by decide, .inl rfl⟩

theorem SeesI.mk {D : Nat → Prop} {w : World} {xs : List Int} {g o c : Nat} (hg : D g) (hc : xs.length ≤ c) (hm : c ≤ maxLen) (h : ∀ i, i < xs.length → w.cell? ⟨g, o + i, none⟩ = some (.int .i64 (xs.getD i 0))) :
    SeesI D w (.slice (some ⟨g, o, none⟩) xs.length c) xs := by
  refine ⟨by simp, _, c, rfl, hc, hm, .inr ⟨g, o, hg, rfl, fun i u hu => ?_⟩⟩
  simp only [List.getElem?_map, Option.map_eq_some_iff] at hu
  obtain ⟨x, hx, rfl⟩ := hu
  obtain ⟨hlt, hx'⟩ := List.getElem?_eq_some_iff.1 hx
  rw [h i hlt]; simp [hx]

end Go.Proofs.Ytlmccjmbidfflaa
