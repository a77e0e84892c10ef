/-
  Texts of this seat, laid one behind the other: Frame, Append, Law, Map, Map2, Map3, RowAt, Ints, RowsIn, Same1, Aside, QB.
-/
import Derived.Test.YtlmeponoadhheaaRows
import Derived.WalkKit
import Derived.WalkSpells
import Derived.WalkLawsBesides
import Derived.Deep.Draws
import Derived.Lib.Hide
import Derived.ProofKit
import Derived.OpenShut
import Derived.Deep.Slices
import Derived.Deep.Fields
import Derived.Lib.SmallJoins
import Derived.MapKept
import Derived.Maps.RangeRun
import Derived.Maps.RangeWalk
import Derived.Laws.IdiomRangeMap
import Derived.Deep.RegionHeld3
import Derived.Deep.DrawnRows
import Derived.Deep.QuietTactic
import Derived.BigQuiet
import Derived.Lib.QuietBelow
/-
  Which blocks of memory a call may have changed ('Ch'), lists of integers in memory, slices that read as lists: general lemmas, of no program.
-/
namespace Go.Proofs.Ytlmeponoadhheaa
set_option linter.unusedVariables false
open Go.RowKit

/-- 'Ch S w w'': of the blocks that stood in w only those of S may be other in w'. -/
structure Ch (S : Nat → Prop) (w w' : World) : Prop where
  os : w'.os = w.os
  tape : w'.tape = w.tape
  output : w'.output = w.output
  size : w.heap.size ≤ w'.heap.size
  block : ∀ k, k < w.heap.size → ¬ S k → w'.heap[k]? = w.heap[k]?

/-- nothing old is other -/
abbrev Ch0 (w w' : World) : Prop := Ch (fun _ => False) w w'

theorem Ch.refl (S : Nat → Prop) (w : World) : Ch S w w := ⟨rfl, rfl, rfl, Nat.le_refl _, fun _ _ _ => rfl⟩

theorem Ch.mono {S S' : Nat → Prop} {w w' : World} (h : Ch S w w') (hs : ∀ k, k < w.heap.size → S k → S' k) : Ch S' w w' :=
  ⟨h.os, h.tape, h.output, h.size, fun k hk hn => h.block k hk (fun q => hn (hs k hk q))⟩

theorem Ch.trans' {S S' S'' : Nat → Prop} {a b c : World} (h : Ch S a b) (k : Ch S' b c) (h1 : ∀ i, i < a.heap.size → S i → S'' i) (h2 : ∀ i, i < a.heap.size → S' i → S'' i) : Ch S'' a c :=
  ⟨k.os.trans h.os, k.tape.trans h.tape, k.output.trans h.output, Nat.le_trans h.size k.size, fun i hi hn =>
    (k.block i (Nat.lt_of_lt_of_le hi h.size) (fun q => hn (h2 i hi q))).trans (h.block i hi (fun q => hn (h1 i hi q)))⟩

theorem Ch.trans {S : Nat → Prop} {a b c : World} (h : Ch S a b) (k : Ch S b c) : Ch S a c := h.trans' k (fun _ _ q => q) (fun _ _ q => q)

theorem Ch.trans0 {S : Nat → Prop} {a b c : World} (h : Ch S a b) (k : Ch0 b c) : Ch S a c := h.trans' k (fun _ _ q => q) (fun _ _ q => q.elim)

theorem Ch.of0 {S : Nat → Prop} {a b : World} (h : Ch0 a b) : Ch S a b := h.mono (fun _ _ q => q.elim)

theorem Ch.alloc {S : Nat → Prop} {a w : World} (h : Ch S a w) (o : Obj) : Ch S a (w.alloc o) :=
  h.trans ⟨rfl, rfl, rfl, by simp, fun k hk _ => Below.heap_alloc _ _ _ (by omega)⟩

theorem Ch.setCell {S : Nat → Prop} {a w : World} (h : Ch S a w) {p : Addr} (hp : p.block < a.heap.size → S p.block) (u : Value) : Ch S a (w.setCell p u) := by
  refine h.trans' (S' := fun k => k = p.block) ⟨rfl, rfl, rfl, by simp [World.setCell], fun k _ hn => Below.heap_setCell _ _ _ _ hn⟩ (fun _ _ q => q) ?_
  rintro i hi rfl
  exact hp hi

theorem Ch.drewN {S : Nat → Prop} {a w : World} (h : Ch S a w) (n : Nat) : Ch S a (w.drewN n) :=
  h.trans ⟨rfl, rfl, rfl, Nat.le_refl _, fun _ _ _ => rfl⟩

theorem Ch.drew {S : Nat → Prop} {a w : World} (h : Ch S a w) : Ch S a w.drew :=
  h.trans ⟨rfl, rfl, rfl, Nat.le_refl _, fun _ _ _ => rfl⟩

theorem Ch.setRow {S : Nat → Prop} {a w : World} (h : Ch S a w) (g : Nat) (hp : g < a.heap.size → S g) (cs : Array Value) : Ch S a (w.setRow g cs) := by
  refine h.trans' (S' := fun k => k = g) ⟨rfl, rfl, rfl, by simp, fun k _ hn => setRow_other w g k cs hn⟩ (fun _ _ q => q) ?_
  rintro i hi rfl
  exact hp hi

theorem Ch.keep {S : Nat → Prop} {w w' : World} (h : Ch S w w') {k : Nat} {o : Obj} (hk : w.heap[k]? = some o) (hn : ¬ S k) : w'.heap[k]? = some o := by
  rw [h.block k (lt_of_block hk) hn]; exact hk

theorem Ch.cell {S : Nat → Prop} {w w' : World} (h : Ch S w w') {a : Addr} {v : Value} (hk : w.cell? a = some v) (hn : ¬ S a.block) : w'.cell? a = some v := by
  rw [World.cell?_of_block (h.block a.block (block_lt_of_cell hk) hn)]; exact hk

theorem Ch.of_grown {w w' : World} {row : Option Nat} (h : w.grownBy w' row) : Ch (fun k => row = some k) w w' :=
  ⟨h.os, h.tape, h.output, h.size, fun k hk hn => h.block k hk (fun e => hn e.symm)⟩

theorem Ch.below {B : Nat} {w w' : World} (h : Ch (fun k => B ≤ k) w w') (hB : B ≤ w.heap.size) : Below B w w' :=
  ⟨h.os, h.tape, h.output, h.size, fun k hk => h.block k (by omega) (by omega)⟩

/-- two worlds are one (behind a name that the walk's simp does not open) -/
def SameW (w w' : World) : Prop := w = w'
theorem SameW.rfl' (w : World) : SameW w w := rfl

/-- integers as a row of cells -/
def ints (xs : List Int) : Array Value := (xs.map (Value.int .i64)).toArray

theorem ints_size (xs : List Int) : (ints xs).size = xs.length := by simp [ints]

theorem ints_get (xs : List Int) (i : Nat) : (ints xs)[i]? = xs[i]?.map (Value.int .i64) := by simp [ints]

theorem ints_getD (xs : List Int) (i : Nat) (h : i < xs.length) : (ints xs)[i]? = some (.int .i64 (xs.getD i 0)) := by
  rw [ints_get]; simp [h]

theorem ints_set (xs : List Int) (i : Nat) (x : Int) : (ints xs).setIfInBounds i (.int .i64 x) = ints (xs.set i x) := by
  simp [ints, List.map_set]

theorem madeCells_zero (n : Nat) : madeCells (Value.int .i64 0).cells n = ints (List.replicate n 0) := by
  apply Array.ext
  · simp [madeCells, ints]
  · intro i h1 h2
    simp [madeCells, ints, Value.cells, Nat.mod_one]

theorem cell_ints {w : World} {b : Nat} {xs : List Int} {T : TypeId} (h : w.heap[b]? = some (.cells (ints xs) T (0, 0))) (i : Nat) (hi : i < xs.length) :
    w.cell? ⟨b, i, none⟩ = some (.int .i64 (xs.getD i 0)) := by
  rw [cell_of_row w b i _ _ _ h, ints_getD xs i hi]

theorem addr_add (b o i : Nat) : (⟨b, o, none⟩ : Addr).add i = ⟨b, o + i, none⟩ := by unfold Addr.add; split <;> simp_all

/-- A slice of n elements (size cells each) reads as the cells l; they lie in a block of D. -/
def Sees (D : Nat → Prop) (w : World) (v : Value) (size n : Nat) (l : List Value) : Prop :=
  l.length = n * size ∧ ∃ a c, v = .slice a n c ∧ n ≤ c ∧ c ≤ maxLen ∧ (n = 0 ∨ ∃ g o, D g ∧ a = some ⟨g, o, none⟩ ∧ ∀ i u, l[i]? = some u → w.cell? ⟨g, o + i, none⟩ = some u)

theorem Sees.keep {D S : Nat → Prop} {w w' : World} {v : Value} {size n : Nat} {l : List Value} (h : Sees D w v size n l) (hc : Ch S w w') (hd : ∀ k, D k → ¬ S k) : Sees D w' v size n l := by
  obtain ⟨h0, a, c, hv, hn, hm, hl⟩ := h
  refine ⟨h0, a, c, hv, hn, hm, hl.imp id ?_⟩
  rintro ⟨g, o, hg, ha, hi⟩
  exact ⟨g, o, hg, ha, fun i u hu => hc.cell (hi i u hu) (hd g hg)⟩

theorem Sees.mono {D D' : Nat → Prop} {w : World} {v : Value} {size n : Nat} {l : List Value} (h : Sees D w v size n l) (hd : ∀ k, D k → D' k) : Sees D' w v size n l := by
  obtain ⟨h0, a, c, hv, hn, hm, hl⟩ := h
  refine ⟨h0, a, c, hv, hn, hm, hl.imp id ?_⟩
  rintro ⟨g, o, hg, ha, hi⟩
  exact ⟨g, o, hd g hg, ha, hi⟩

abbrev SeesI (D : Nat → Prop) (w : World) (v : Value) (xs : List Int) : Prop := Sees D w v 1 xs.length (xs.map (Value.int .i64))

theorem SeesI.cell {D : Nat → Prop} {w : World} {v : Value} {xs : List Int} (h : SeesI D w v xs) (hp : 0 < xs.length) :
    ∃ g o c, D g ∧ v = .slice (some ⟨g, o, none⟩) xs.length c ∧ ∀ i, i < xs.length → w.cell? ⟨g, o + i, none⟩ = some (.int .i64 (xs.getD i 0)) := by
  obtain ⟨h0, a, c, hv, hn, hm, hl⟩ := h
  rcases hl with hl | ⟨g, o, hg, rfl, hi⟩
  · omega
  · exact ⟨g, o, c, hg, hv, fun i hlt => hi i _ (by simp [hlt])⟩

theorem Sees.cellF {D : Nat → Prop} {w : World} {v : Value} {f : Int → Value} {xs : List Int} (h : Sees D w v 1 xs.length (xs.map f)) (hp : 0 < xs.length) :
    ∃ g o c, D g ∧ v = .slice (some ⟨g, o, none⟩) xs.length c ∧ ∀ i, i < xs.length → w.cell? ⟨g, o + i, none⟩ = some (f (xs.getD i 0)) := by
  obtain ⟨h0, a, c, hv, hn, hm, hl⟩ := h
  rcases hl with hl | ⟨g, o, hg, rfl, hi⟩
  · omega
  · exact ⟨g, o, c, hg, hv, fun i hlt => hi i _ (by simp [hlt])⟩

theorem Sees.len {D : Nat → Prop} {w : World} {v : Value} {size n : Nat} {l : List Value} (h : Sees D w v size n l) : ∃ a c, v = .slice a n c ∧ n ≤ 9223372036854775807 := by
  obtain ⟨h0, a, c, hv, hn, hm, hl⟩ := h
  exact ⟨a, c, hv, by unfold maxLen at hm; omega⟩

theorem SeesI.len {D : Nat → Prop} {w : World} {v : Value} {xs : List Int} (h : SeesI D w v xs) : ∃ a c, v = .slice a xs.length c ∧ xs.length ≤ 9223372036854775807 := by
  obtain ⟨h0, a, c, hv, hn, hm, hl⟩ := h
  exact ⟨a, c, hv, by unfold maxLen at hm; omega⟩

theorem SeesI.nil {D : Nat → Prop} {w : World} : SeesI D w (.slice none 0 0) [] := ⟨rfl, none, 0, rfl, Nat.le_refl _, by decide, .inl rfl⟩

theorem SeesI.mk {D : Nat → Prop} {w : World} {xs : List Int} {g o c : Nat} (hg : D g) (hc : xs.length ≤ c) (hm : c ≤ maxLen) (h : ∀ i, i < xs.length → w.cell? ⟨g, o + i, none⟩ = some (.int .i64 (xs.getD i 0))) :
    SeesI D w (.slice (some ⟨g, o, none⟩) xs.length c) xs := by
  refine ⟨by simp, _, c, rfl, hc, hm, .inr ⟨g, o, hg, rfl, fun i u hu => ?_⟩⟩
  simp only [List.getElem?_map, Option.map_eq_some_iff] at hu
  obtain ⟨x, hx, rfl⟩ := hu
  obtain ⟨hlt, hx'⟩ := List.getElem?_eq_some_iff.1 hx
  rw [h i hlt]; simp [hx]

end Go.Proofs.Ytlmeponoadhheaa

/-
  The built-in append and copy, said of owned rows ('ownsRow 0') and of slices that read as cells ('Sees'): general laws, of no program.
-/
namespace Go.Proofs.Ytlmeponoadhheaa
set_option linter.unusedVariables false
open Go.RowKit

theorem Sees.nil {D : Nat → Prop} {w : World} {size : Nat} : Sees D w (.slice none 0 0) size 0 [] := ⟨by simp, none, 0, rfl, Nat.le_refl _, by decide, .inl rfl⟩

/-- An owned row reads as its cells. -/
theorem sees_of_owns {w : World} {base : Nat} {e : TypeId} {size : Nat} {v : Value} {n : Nat} {xs : List Value} (h : w.ownsRow base e size v n xs) : Sees (fun k => v.ownBlock = some k) w v size n xs := by
  refine ⟨h.1, ?_⟩
  rcases h.2 with ⟨rfl, rfl⟩ | ⟨g, cap, cur, rfl, hb, hg, hn, hm, hs, ht⟩
  · exact ⟨none, 0, rfl, Nat.le_refl _, by decide, .inl rfl⟩
  · refine ⟨_, cap, rfl, hn, hm, .inr ⟨g, 0, rfl, rfl, fun i u hu => ?_⟩⟩
    have := h.cells (g := g) rfl i u hu
    rwa [addr_add] at this

theorem owns_keep {w w' : World} {base : Nat} {e : TypeId} {size : Nat} {v : Value} {n : Nat} {xs : List Value} {S : Nat → Prop} (h : w.ownsRow base e size v n xs) (hc : Ch S w w') (hn : ∀ k, v.ownBlock = some k → ¬ S k) : w'.ownsRow base e size v n xs := by
  refine ⟨h.1, ?_⟩
  rcases h.2 with hl | ⟨g, cap, cur, rfl, hb, hg, r⟩
  · exact .inl hl
  · exact .inr ⟨g, cap, cur, rfl, hb, hc.keep hg (hn g rfl), r⟩

/-- A block that is known whole is an owned row. -/
theorem owns_block {w : World} {e : TypeId} {size g n : Nat} {cs : List Value} (h : w.heap[g]? = some (.cells cs.toArray e (0, 0))) (hn : cs.length = n * size) (hm : n ≤ maxLen) : w.ownsRow 0 e size (.slice (some ⟨g, 0, none⟩) n n) n cs :=
  ⟨hn, .inr ⟨g, n, _, rfl, Nat.zero_le _, h, Nat.le_refl _, hm, by simp [hn], by simp [← hn]⟩⟩

/-- A row of more room than it holds. -/
theorem owns_block_empty {w : World} {e : TypeId} {size g n : Nat} {cur : Array Value} (h : w.heap[g]? = some (.cells cur e (0, 0))) (hn : cur.size = n * size) (hm : n ≤ maxLen) : w.ownsRow 0 e size (.slice (some ⟨g, 0, none⟩) 0 n) 0 [] :=
  ⟨by simp, .inr ⟨g, n, cur, rfl, Nat.zero_le _, h, Nat.zero_le _, hm, hn, by simp⟩⟩

/-- An owned row of at least one element. -/
theorem owns_pos {w : World} {e : TypeId} {size : Nat} {v : Value} {n : Nat} {xs : List Value} (h : w.ownsRow 0 e size v n xs) (hn : 0 < n) :
    ∃ g cap, v = .slice (some ⟨g, 0, none⟩) n cap ∧ n ≤ cap ∧ cap ≤ maxLen ∧ (∃ cur, w.heap[g]? = some (.cells cur e (0, 0)) ∧ cur.size = cap * size ∧ cur.toList.take (n * size) = xs) := by
  rcases h.2 with ⟨_, rfl⟩ | ⟨g, cap, cur, hv, _, hg, hnc, hm, hs, ht⟩
  · omega
  · exact ⟨g, cap, hv, hnc, hm, cur, hg, hs, ht⟩

theorem owns_cell {w : World} {e : TypeId} {size g cap : Nat} {n : Nat} {xs : List Value} (h : w.ownsRow 0 e size (.slice (some ⟨g, 0, none⟩) n cap) n xs) (i : Nat) (u : Value) (hu : xs[i]? = some u) : w.cell? ⟨g, i, none⟩ = some u := by
  have := h.cells (g := g) rfl i u hu
  rwa [addr_add, Nat.zero_add] at this

theorem owns_free {w : World} {e : TypeId} {size g cap : Nat} {n : Nat} {xs : List Value} (h : w.ownsRow 0 e size (.slice (some ⟨g, 0, none⟩) n cap) n xs) (i : Nat) : w.frozen? ⟨g, i, none⟩ = false := by
  rcases h.2 with ⟨hc, _⟩ | ⟨g', cap, cur, hv, _, hg, _⟩
  · cases hc
  · cases hv; exact frozen_of_row w g i _ _ hg

theorem owns_lt {w : World} {e : TypeId} {size : Nat} {v : Value} {n : Nat} {xs : List Value} (h : w.ownsRow 0 e size v n xs) {g : Nat} (hg : v.ownBlock = some g) : g < w.heap.size := (h.lt g hg).2

theorem owns_set {w : World} {e : TypeId} {size g cap : Nat} {n : Nat} {xs : List Value} (h : w.ownsRow 0 e size (.slice (some ⟨g, 0, none⟩) n cap) n xs) (i : Nat) (u : Value) :
    (w.setCell ⟨g, i, none⟩ u).ownsRow 0 e size (.slice (some ⟨g, 0, none⟩) n cap) n (if i < n * size then xs.set i u else xs) := by
  rcases h.2 with ⟨hc, _⟩ | ⟨g', cap', cur, hv, _, hg, hnc, hm, hs, ht⟩
  · cases hc
  · cases hv
    refine ⟨by split <;> simp [h.1], .inr ⟨g, cap, _, rfl, Nat.zero_le _, heap_setCell_same w g i cur e u hg, hnc, hm, by simp [hs], ?_⟩⟩
    rw [Array.toList_setIfInBounds, ← ht]
    split
    · rw [List.take_set]
    · rw [List.take_set, List.set_eq_of_length_le (by rw [ht, h.1]; omega)]

theorem one_int (k : IntKind) (x : Int) : (Value.int k x).oneCell' = true := rfl

theorem one_ints (xs : List Int) : ∀ u ∈ xs.map (Value.int .i64), u.oneCell' = true := by
  intro u hu
  obtain ⟨x, _, rfl⟩ := List.mem_map.1 hu
  rfl

section
variable {P : Program} (w : World)

/-- append, whatever its two operands hold. -/
theorem append_law (t ty e : TypeId) (i : TypeInfo) (z : Value) (size bytes : Nat) (ht : P.underlying t = some (.slice e)) (hi : P.info? e = some i) (hz : i.zero = some z)
    (hsize : i.size = size) (hby : i.bytes = bytes) (hzs : z.cells.size = size)
    (v : Value) (n : Nat) (xs : List Value) (hown : w.ownsRow 0 e size v n xs)
    (x : Value) (m : Nat) (news : List Value) {D : Nat → Prop} (hx : Sees D w x size m news) (h1 : ∀ u ∈ news, u.oneCell' = true)
    (h63 : n + m ≤ maxLen) (hbytes : (n + m) * bytes ≤ 140737488355328) :
    ∃ v' w', (Builtin.append_ #[t, t] ty #[v, x]).run P w = .ok v' w' ∧ w'.ownsRow 0 e size v' (n + m) (xs ++ news) ∧ Ch (fun k => v.ownBlock = some k) w w' ∧
      (v'.ownBlock = v.ownBlock ∨ v'.ownBlock = some w.heap.size) ∧ (v' = .slice none 0 0 ↔ v = .slice none 0 0 ∧ m = 0) := by
  subst hsize
  subst hby
  obtain ⟨hl, a, c, rfl, hmc, hcm', hcells⟩ := hx
  have hsmall : n + m ≤ 9223372036854775807 := by simp only [maxLen] at h63; omega
  have hlen : (xs ++ news).length = (n + m) * i.size := by rw [List.length_append, hown.1, hl, Nat.add_mul]
  have grown : ∀ (old : Nat), old < n + m → ∀ (S : Nat → Prop),
      (w.drew.alloc (.cells (xs.toArray ++ news.toArray ++ Builtin.zeroCells z.cells (grownCap w (n + m) old e - (n + m))) e)).ownsRow 0 e i.size
        (.slice (some ⟨w.heap.size, 0, none⟩) (n + m) (grownCap w (n + m) old e)) (n + m) (xs ++ news) ∧
      Ch S w (w.drew.alloc (.cells (xs.toArray ++ news.toArray ++ Builtin.zeroCells z.cells (grownCap w (n + m) old e - (n + m))) e)) := by
    intro old ho S
    have hge := grownCap_ge w (n + m) old e
    have hcm : grownCap w (n + m) old e ≤ maxLen := grownCap_le_maxLen w (n + m) old e h63
    refine ⟨⟨hlen, .inr ⟨w.heap.size, _, _, rfl, Nat.zero_le _, heap_alloc_new w.drew _, hge, hcm, ?_, ?_⟩⟩, ((Ch.refl _ _).drew).alloc _⟩
    · simp only [Array.size_append, List.size_toArray, size_zeroCells, hzs, hown.1, hl, ← Nat.add_mul]
      congr 1
      omega
    · simp only [Array.toList_append, List.append_assoc]
      rw [← List.append_assoc, ← hlen]
      exact List.take_left
  by_cases hm : m = 0
  · subst hm
    have hn : news = [] := List.eq_nil_of_length_eq_zero (by simpa using hl)
    subst hn
    have hfc : ∀ a : Option Addr, ∀ w : World, (Builtin.firstCells i.size 0 (.slice a 0 c)).run P w = .ok #[] w := by
      intro a w
      cases a <;> simp [Builtin.firstCells, loadCells, loadCellsFrom]
    refine ⟨v, w, ?_, by simpa using hown, Ch.refl _ _, .inl rfl, by simp⟩
    rcases hown.2 with ⟨rfl, rfl⟩ | ⟨g, cap, cur, rfl, hbg, hg, hnc, hcm, hcs, htake⟩
    · simp [Builtin.append_, run_underlying ht, sizeOf, typeInfo, hi, Builtin.lenOf, hfc]
    · simp [Builtin.append_, run_underlying ht, sizeOf, typeInfo, hi, Builtin.lenOf, hfc, hnc, storeCells]
  · obtain ⟨g', o', _, rfl, hcl⟩ := hcells.resolve_left hm
    have hnews : ∀ j u, news[j]? = some u → w.cell? ((⟨g', o', none⟩ : Addr).add j) = some u := by
      intro j u hu
      rw [addr_add]
      exact hcl j u hu
    rcases hown.2 with ⟨rfl, rfl⟩ | ⟨g, cap, cur, rfl, hbg, hg, hnc, hcm, hcs, htake⟩
    · have hx : xs = [] := List.eq_nil_of_length_eq_zero (by simpa using hown.1)
      subst hx
      have hr := run_append_nil (P := P) w t ty e i z ht hi hz ⟨g', o', none⟩ m c news hl hnews (by omega) (by omega) (by have hb := hbytes; simp only [Nat.zero_add] at hb; omega)
      have hgr := grown 0 (by omega) (fun k => Value.ownBlock (.slice none 0 0) = some k)
      simp only [Nat.zero_add, List.nil_append, Array.empty_append] at hgr ⊢
      exact ⟨_, _, hr, hgr.1, hgr.2, .inr rfl, by simp [hm]⟩
    · by_cases hroom : n + m ≤ cap
      · have hfit : n * i.size + news.length ≤ cur.size := by rw [hl, hcs, ← Nat.add_mul]; exact Nat.mul_le_mul_right _ hroom
        have hr := run_append_room (P := P) w t ty e i ht hi g n cap cur hg ⟨g', o', none⟩ m c news hl hnews h1 hroom hfit
        refine ⟨_, _, hr, ⟨hlen, .inr ⟨g, cap, _, rfl, hbg, setRow_heap w g cur _ e _ hg, hroom, hcm, ?_, ?_⟩⟩, Ch.setRow (Ch.refl _ w) g (fun _ => by simp [Value.ownBlock]) _, .inl rfl, by simp⟩
        · simp only [List.size_toArray, List.length_append, List.length_take, List.length_drop, Array.length_toList]
          omega
        · rw [htake, ← hlen]
          exact List.take_left
      · have holds : ∀ j u, xs[j]? = some u → w.cell? ((⟨g, 0, none⟩ : Addr).add j) = some u := hown.cells (g := g) rfl
        have hr := run_append_grow (P := P) w t ty e i z ht hi hz ⟨g, 0, none⟩ n cap xs hown.1 holds ⟨g', o', none⟩ m c news hl hnews (by omega) (by omega) (growslice_fits (by omega) hbytes)
        have hgr := grown cap (by omega) (fun k => Value.ownBlock (.slice (some ⟨g, 0, none⟩) n cap) = some k)
        exact ⟨_, _, hr, hgr.1, hgr.2, .inr rfl, by simp⟩

/-- The walk's arm at an append whose run is known: '(at_builtin; refine wpList_append_run rfl _ _ t rfl rfl rfl hrun ?_)'. -/
theorem wpList_append_run {w : World} {ops : Array Oper} {rest : List Oper} {o : Oper} {a : Act} {Q : Exit → Act → World → Prop} (hgd : o.guard = none) (s x : Operand) (t u : TypeId)
    (ho : o.op = .call { callee := .builtin .append, args := #[s, x], argTypes := #[t, u] }) {v y v' : Value} {w' : World} (hs : a.eval s = v) (hx : a.eval x = y)
    (hrun : (Builtin.append_ #[t, u] o.type #[v, y]).run P w = .ok v' w') (h : wpList P ops Q rest (a.put o.dst v') w') : wpList P ops Q (o :: rest) a w := by
  refine wpList_plain hgd fun K hK => ?_
  unfold Oper.wp execOp
  simp only [ho, resolve, invoke, builtin, Sem.run_bind, Sem.run_pure, Result.andThen_ok, List.map_toArray, List.map_cons, List.map_nil, hs, hx, hrun]
  exact hK _ _ h

end

end Go.Proofs.Ytlmeponoadhheaa

/-
  From a walk to a law's row: what the arguments read as is read again behind the call; slices that come in, as cells. General, of no program.
-/
namespace Go.Proofs.Ytlmeponoadhheaa
set_option linter.unusedVariables false
open Go.ChangeShapes Go.WideShapes Go.ChangeAt Go.RowKit Go.Deep Go.Joins

section
variable {H : Type} {enc : TypeId × Value → H} {P : Program}

/-- All arguments read behind the call as they read before, if nothing old is other. -/
theorem trodAll_below (hl : laidOutB P = true) {W W' : World} (hb : Below W.heap.size W W') : ∀ (ts : List TypeId) (vs : List Value) (ds : List (DataW H)) (ps : List MemPlace),
    (∀ t ∈ ts, P.readableRec t = true ∧ t < P.types.size) → DataW.TrodAll enc P W 0 (fun _ => true) true ts vs ds ps → (∀ x ∈ ps, x.block < W.heap.size) →
    DataW.TrodAll enc P W' 0 (fun b => decide (b < W.heap.size)) true ts vs ds ps
  | [], vs, ds, ps, _, h, _ => by
    obtain ⟨rfl, rfl, rfl⟩ := trodAll_nil h
    exact trodAll_mk0
  | t :: ts, vs, ds, ps, hr, h, hlt => by
    obtain ⟨v, vs', d, ds', p, q, rfl, rfl, rfl, h0, r0⟩ := trodAll_cons h
    refine trodAll_cons_mk (Below.trod hl (hr t (by simp)).1 (hr t (by simp)).2 h0 hb (fun x hx => hlt x (by simp [hx]))) ?_
    exact trodAll_below hl hb ts vs' ds' q (fun t ht => hr t (by simp [ht])) r0 (fun x hx => hlt x (by simp [hx]))

/-- The step of a law's row: the walk returns true and turns nothing old. -/
theorem law_step {f : Func} {F : FuncId} {s : ChangeSpec} {tb : TypeId} (hl : laidOutB P = true) (hv : s.vars = []) (hres : f.resultTypes = #[tb]) (hbool : P.underlying tb = some .bool)
    (hr : ∀ t ∈ f.params.toList, P.readableRec t = true ∧ t < P.types.size)
    {W : World} {args : Array Value} {ds gs : List (DataW H)} {before : List MemPlace}
    (hW : DataW.Whole enc P f.params.toList s.vars false W args.toList ds gs before)
    (hsp : ∀ ds : List (DataW H), ds.length = f.params.toList.length → s.fn H ds = { results := [.lit (.bool true)], args := ds })
    (hwalk : ∀ p, DataW.TrodAll enc P W 0 (fun _ => true) true f.params.toList args.toList ds p → Calls P F args W fun e W' => e = .returned (.bool true) ∧ Below W.heap.size W W') :
    Calls P F args W fun e W' => ∃ v, e = .returned v ∧ s.post enc P f false true false false W args v W' := by
  have hW' := hW
  obtain ⟨p, q, hA, hV, rfl, hfz, hnd⟩ := hW
  rw [hv] at hV
  obtain ⟨rfl, rfl⟩ := trodVars_none hV
  have hlen : ∀ (ts : List TypeId) (vs : List Value) (ds : List (DataW H)) (ps : List MemPlace), DataW.TrodAll enc P W 0 (fun _ => true) true ts vs ds ps → ds.length = ts.length := by
    intro ts
    induction ts with
    | nil => intro vs ds ps h; obtain ⟨rfl, rfl, rfl⟩ := trodAll_nil h; rfl
    | cons t ts ih => intro vs ds ps h; obtain ⟨v, vs', d, ds', p, q, rfl, rfl, rfl, _, r0⟩ := trodAll_cons h; simp [ih _ _ _ r0]
  have hsp' := hsp ds (hlen _ _ _ _ hA)
  simp only [List.append_nil] at hW'
  refine (hwalk p hA).mono fun e W' ⟨he, bel⟩ => ⟨_, he, ds, [], p, [], p, [], hW', ?_, ?_, ?_, bel.frame _, fun h => by cases h⟩
  · rw [List.append_nil, hsp', hres]
    exact trodAll_mk1 (shut_bool hbool _)
  · rw [List.append_nil, hsp']
    exact trodAll_below hl bel _ _ _ _ hr hA (fun x hx => hW'.lt x hx)
  · rw [List.append_nil, hsp', hv]
    rfl

/-! ### Slices that come in -/

theorem spot_none {w : World} {a : Addr} {v : Value} (h : w.cell? a = some v) : a = ⟨a.block, a.off, none⟩ := by
  unfold World.cell? at h
  split at h
  · split at h
    · cases h
    · rename_i hs
      cases a
      simp_all
  · cases h

theorem length_flatMap_const {α : Type} {k : Nat} (f : Nat → List α) : ∀ (n : Nat), (∀ i, i < n → (f i).length = k) → ((List.range n).flatMap f).length = n * k
  | 0, _ => by simp
  | n + 1, hf => by
    rw [List.range_succ, List.flatMap_append, List.length_append, length_flatMap_const f n (fun i hi => hf i (by omega)), Nat.add_mul]
    simp [hf n (by omega)]

theorem getElem?_flatMap_const {α : Type} {k : Nat} (f : Nat → List α) : ∀ (n : Nat), (∀ i, i < n → (f i).length = k) → ∀ i j, i < n → j < k → ((List.range n).flatMap f)[i * k + j]? = (f i)[j]?
  | 0, _, i, j, hi, _ => by omega
  | n + 1, hf, i, j, hi, hj => by
    have hlen : ((List.range n).flatMap f).length = n * k := by
      exact length_flatMap_const f n (fun i hi => hf i (by omega))
    rw [List.range_succ, List.flatMap_append, List.getElem?_append]
    by_cases h : i < n
    · have hlt : i * k + j < n * k := by
        have : (i + 1) * k ≤ n * k := Nat.mul_le_mul_right _ h
        rw [Nat.add_mul] at this; omega
      rw [if_pos (by rw [hlen]; exact hlt)]
      exact getElem?_flatMap_const f n (fun i hi => hf i (by omega)) i j h hj
    · obtain rfl : i = n := by omega
      rw [if_neg (by rw [hlen]; omega), hlen]
      simp

/-- cells that are read as a value of a type -/
def RD (enc : TypeId × Value → H) (P : Program) (W : World) (t : TypeId) (cs : List Value) : Prop := ∃ fuel x, DataW.trod enc P W 0 (fun _ => true) true fuel t cs = some x

theorem RD.int {W : World} {t : TypeId} {K : IntKind} {cs : List Value} (ht : P.underlying t = some (.int K)) (h : RD enc P W t cs) : ∃ x : Int, cs = [.int K x] ∧ (Lit.int K x).wf = true := by
  obtain ⟨fuel, y, hy⟩ := h
  obtain ⟨x, e0, _, wx⟩ := DataW.trod_int ht hy
  exact ⟨x, e0, wx⟩

theorem RD.bool {W : World} {t : TypeId} {cs : List Value} (ht : P.underlying t = some .bool) (h : RD enc P W t cs) : ∃ x : Bool, cs = [.bool x] := by
  obtain ⟨fuel, y, hy⟩ := h
  obtain ⟨x, e0, _⟩ := DataW.trod_bool ht hy
  exact ⟨x, e0⟩

theorem RD.struct {W : World} {t : TypeId} {fs : Array Field} {cs : List Value} (ht : P.underlying t = some (.struct fs)) (h : RD enc P W t cs) :
    cs.length = P.cellsOf t ∧ ∀ (i : Nat) (f : Field), fs[i]? = some f → RD enc P W f.type ((cs.drop f.offset).take (P.cellsOf f.type)) := by
  obtain ⟨fuel, y, hy⟩ := h
  obtain ⟨xs, n, _, _, hl, hxl, hf⟩ := DataW.trod_struct ht hy
  refine ⟨hl, fun i f hi => ?_⟩
  have hlt : i < xs.length := by rw [hxl]; exact (Array.getElem?_eq_some_iff.1 hi).1
  exact ⟨n, xs[i], by rw [hf i f hi, List.getElem?_eq_getElem hlt]⟩

/-- A slice that is read: its elements' cells, and each element's own reading. -/
theorem RD.slice {t e : TypeId} {k : Nat} {W : World} {cs0 : List Value} (ht : P.underlying t = some (.slice e)) (hC : P.cellsOf e = k) (hk : 0 < k) (h : RD enc P W t cs0) :
    ∃ v n, ∃ cs : Nat → List Value, cs0 = [v] ∧ Sees (fun k => k < W.heap.size) W v k n ((List.range n).flatMap cs) ∧ ∀ i, i < n → (cs i).length = k ∧ RD enc P W e (cs i) := by
  obtain ⟨fuel, x0, hf⟩ := h
  rcases open_slice ht hf with ⟨rfl, _⟩ | ⟨a, len, c, m, n, D, Pl, rfl, hb, hl, hm, hmm, hx, hi⟩
  · exact ⟨_, 0, fun _ => [], rfl, by simpa using (Sees.nil : Sees (fun k => k < W.heap.size) W (.slice none 0 0) k 0 []), fun i hi => by omega⟩
  · rw [if_pos rfl] at hmm
    subst hmm
    obtain ⟨cs, hcs⟩ := choose_lt (α := List Value) (n := len) (p := fun i cs' => W.cells? 0 (a.add (i * k)) k = some cs' ∧ DataW.trod enc P W 0 (fun _ => true) true n e cs' = some (D i, Pl i)) (fun i hlt => by
      obtain ⟨cs', h1, h2⟩ := hi i (by omega)
      rw [hC] at h1
      exact ⟨cs', h1, h2⟩)
    have hlen : ∀ i, i < len → (cs i).length = k := fun i hlt => (World.cells?_some (hcs i hlt).1).2.1
    refine ⟨_, len, cs, rfl, ⟨length_flatMap_const cs len hlen, some a, _, rfl, hl, hm, ?_⟩, fun i hlt => ⟨hlen i hlt, n, _, (hcs i hlt).2⟩⟩
    rcases Nat.eq_zero_or_pos len with h0 | hpos
    · exact .inl h0
    · right
      have hat0 := (World.cells?_some (hcs 0 hpos).1).2.2 0 hk
      have hl0 := hlen 0 hpos
      have hcell0 : W.cell? a = some ((cs 0)[0]'(by omega)) := by
        have : (a.add (0 * k)).add 0 = a := by simp [Addr.add]
        rw [this, List.getElem?_eq_getElem (by omega)] at hat0
        exact hat0
      have hsp := spot_none hcell0
      refine ⟨a.block, a.off, block_lt_of_cell hcell0, by rw [← hsp], fun j u hu => ?_⟩
      have hjl : j < len * k := by
        rw [← length_flatMap_const cs len hlen]
        exact (List.getElem?_eq_some_iff.1 hu).1
      have hd : j / k < len := Nat.div_lt_of_lt_mul (by rwa [Nat.mul_comm])
      have hmod : j % k < k := Nat.mod_lt _ hk
      have hj : j / k * k + j % k = j := by rw [Nat.mul_comm]; exact Nat.div_add_mod j k
      rw [← hj, getElem?_flatMap_const cs len hlen _ _ hd hmod] at hu
      have hat := (World.cells?_some (hcs _ hd).1).2.2 _ hmod
      rw [Go.Deep.add_add, hj, hu, hsp, addr_add] at hat
      exact hat

/-- A slice of integers that is read. -/
theorem RD.ints {t e : TypeId} {K : IntKind} {W : World} {cs0 : List Value} (ht : P.underlying t = some (.slice e)) (he : P.underlying e = some (.int K)) (hC : P.cellsOf e = 1) (h : RD enc P W t cs0) :
    ∃ v, ∃ xs : List Int, cs0 = [v] ∧ Sees (fun k => k < W.heap.size) W v 1 xs.length (xs.map (Value.int K)) ∧ ∀ x ∈ xs, (Lit.int K x).wf = true := by
  obtain ⟨v, n, cs, rfl, hs, hi⟩ := RD.slice ht hC (by omega) h
  obtain ⟨X, hX⟩ := choose_lt (α := Int) (n := n) (p := fun i x => cs i = [.int K x] ∧ (Lit.int K x).wf = true) (fun i hlt => RD.int he (hi i hlt).2)
  refine ⟨v, (List.range n).map X, rfl, ?_, fun x hx => ?_⟩
  · have : (List.range n).flatMap cs = ((List.range n).map X).map (Value.int K) := by
      rw [List.map_map, ← List.flatMap_singleton' ((List.range n).map _)]
      rw [List.flatMap_map]
      exact flatMap_congr_range fun i hi => (hX i hi).1
    rw [this] at hs
    simpa using hs
  · obtain ⟨i, hi, rfl⟩ := List.mem_map.1 hx
    exact (hX i (List.mem_range.1 hi)).2

theorem RD.of_arg {W : World} {t : TypeId} {v : Value} {d : DataW H} {p : List MemPlace} (h : DataW.Trod enc P W 0 (fun _ => true) true t v d p) : RD enc P W t v.cells.toList := by
  obtain ⟨fuel, hf⟩ := h
  exact ⟨fuel, _, hf⟩

/-- A slice of integers that came in. -/
theorem open_seesI {t e : TypeId} {K : IntKind} {r : Reach} {b0 : Nat} {W : World} {v : Value} {d : DataW H} {p : List MemPlace} (ht : P.underlying t = some (.slice e)) (he : P.underlying e = some (.int K)) (hC : P.cellsOf e = 1)
    (hok : Value.okWide P W r b0 t v) (h : DataW.Trod enc P W 0 (fun _ => true) true t v d p) :
    ∃ xs : List Int, Sees (fun k => k < W.heap.size) W v 1 xs.length (xs.map (Value.int K)) ∧ ∀ x ∈ xs, (Lit.int K x).wf = true := by
  have hr := RD.of_arg h
  obtain ⟨a0, len, cap, rfl⟩ := okWide_slice ht hok
  obtain ⟨v, xs, hv, h⟩ := RD.ints ht he hC hr
  simp [Value.cells] at hv
  subst hv
  exact ⟨xs, h⟩

/-- A slice that came in: its elements' cells, each read. -/
theorem open_sees {t e : TypeId} {k : Nat} {r : Reach} {b0 : Nat} {W : World} {v : Value} {d : DataW H} {p : List MemPlace} (ht : P.underlying t = some (.slice e)) (hC : P.cellsOf e = k) (hk : 0 < k)
    (hok : Value.okWide P W r b0 t v) (h : DataW.Trod enc P W 0 (fun _ => true) true t v d p) :
    ∃ n, ∃ cs : Nat → List Value, Sees (fun k => k < W.heap.size) W v k n ((List.range n).flatMap cs) ∧ ∀ i, i < n → (cs i).length = k ∧ RD enc P W e (cs i) := by
  have hr := RD.of_arg h
  obtain ⟨a0, len, cap, rfl⟩ := okWide_slice ht hok
  obtain ⟨v, n, cs, hv, h⟩ := RD.slice ht hC hk hr
  simp [Value.cells] at hv
  subst hv
  exact ⟨n, cs, h⟩

/-- A struct that came in by value. -/
theorem open_agg {t : TypeId} {fs : Array Field} {r : Reach} {b0 : Nat} {W : World} {v : Value} {d : DataW H} {p : List MemPlace} (ht : P.underlying t = some (.struct fs))
    (hok : Value.okWide P W r b0 t v) (h : DataW.Trod enc P W 0 (fun _ => true) true t v d p) :
    ∃ cs : List Value, v = .agg cs.toArray ∧ cs.length = P.cellsOf t ∧ RD enc P W t cs := by
  have hr := RD.of_arg h
  obtain ⟨cs, rfl, hsz⟩ := okWide_struct ht hok
  exact ⟨cs.toList, by simp, by simpa using hsz, hr⟩

/-- cells that are all integers of one kind -/
theorem RD.ints5 {W : World} {t T : TypeId} {K : IntKind} {fs : Array Field} {cs : List Value} (ht : P.underlying t = some (.struct fs)) (hT : P.underlying T = some (.int K)) (hC : P.cellsOf T = 1)
    (hfs : fs.map (fun f => (f.offset, f.type)) = #[(0, T), (1, T), (2, T), (3, T), (4, T)]) (hn : P.cellsOf t = 5) (h : RD enc P W t cs) :
    ∃ a b c d e : Int, cs = [.int K a, .int K b, .int K c, .int K d, .int K e] ∧ ∀ x ∈ [a, b, c, d, e], (Lit.int K x).wf = true := by
  obtain ⟨hl, hf⟩ := RD.struct ht h
  rw [hn] at hl
  have key : ∀ i, i < 5 → ∃ x : Int, cs[i]? = some (.int K x) ∧ (Lit.int K x).wf = true := by
    intro i hi
    have hi' : (fs.map (fun f => (f.offset, f.type)))[i]? = some (i, T) := by
      rw [hfs]
      match i, hi with
      | 0, _ => rfl
      | 1, _ => rfl
      | 2, _ => rfl
      | 3, _ => rfl
      | 4, _ => rfl
    rw [Array.getElem?_map, Option.map_eq_some_iff] at hi'
    obtain ⟨f, hfi, hfe⟩ := hi'
    have e1 : f.offset = i := congrArg Prod.fst hfe
    have e2 : f.type = T := congrArg Prod.snd hfe
    have h1 := hf i f hfi
    rw [e1, e2, hC] at h1
    obtain ⟨x, hx, wx⟩ := RD.int hT h1
    refine ⟨x, ?_, wx⟩
    have : ((cs.drop i).take 1)[0]? = some (.int K x) := by rw [hx]; rfl
    simpa [List.getElem?_take, List.getElem?_drop] using this
  obtain ⟨a, ha, wa⟩ := key 0 (by omega)
  obtain ⟨b, hb, wb⟩ := key 1 (by omega)
  obtain ⟨c, hc, wc⟩ := key 2 (by omega)
  obtain ⟨d, hd, wd⟩ := key 3 (by omega)
  obtain ⟨e, he, we⟩ := key 4 (by omega)
  have hcs : cs = [.int K a, .int K b, .int K c, .int K d, .int K e] := by
    apply List.ext_getElem?
    intro i
    match i with
    | 0 => exact ha
    | 1 => exact hb
    | 2 => exact hc
    | 3 => exact hd
    | 4 => exact he
    | i + 5 => rw [List.getElem?_eq_none (by omega), List.getElem?_eq_none (by simp)]
  exact ⟨a, b, c, d, e, hcs, by simp [wa, wb, wc, wd, we]⟩

end

end Go.Proofs.Ytlmeponoadhheaa

/-
  Maps keyed by integers, as partial functions: look up, store, delete, len, range: the laws of the runs, and each at the operation of a walk. General, of no program.
-/
namespace Go.Proofs.Ytlmeponoadhheaa
set_option linter.unusedVariables false
open Go.RowKit
open Go.MapKept (Stamped IsKey stamped_empty stamped_push stamped_modify stamped_erase stamped_iff findNow_spec)
open Go.ChangeMaps (setBlock)

/-- Block r is a map of n entries, that reads as f. -/
def IM (w : World) (r n : Nat) (f : Int → Option Value) : Prop :=
  ∃ es clock, w.heap[r]? = some (.map es clock) ∧ Stamped es clock ∧ es.size = n ∧ (∀ x ∈ es.toList, ∃ k, x.key = .int .i64 k ∧ f k = some x.val) ∧ ∀ k v, f k = some v → ∃ x ∈ es.toList, x.key = .int .i64 k

def iput (f : Int → Option Value) (k : Int) (v : Value) : Int → Option Value := fun i => if i = k then some v else f i
def idel (f : Int → Option Value) (k : Int) : Int → Option Value := fun i => if i = k then none else f i

theorem IM.keep {S : Nat → Prop} {w w' : World} {r n : Nat} {f : Int → Option Value} (h : IM w r n f) (hc : Ch S w w') (hn : ¬ S r) : IM w' r n f := by
  obtain ⟨es, clock, hb, rest⟩ := h
  exact ⟨es, clock, hc.keep hb hn, rest⟩

theorem IM.lt {w : World} {r n : Nat} {f : Int → Option Value} (h : IM w r n f) : r < w.heap.size := by
  obtain ⟨es, clock, hb, _⟩ := h
  exact lt_of_block hb

theorem IM.made (w : World) : IM (w.alloc (.map #[] 0)) w.heap.size 0 (fun _ => none) :=
  ⟨#[], 0, (MapKept.heap_alloc w _).1, stamped_empty 0, rfl, by simp, by simp⟩

theorem IM.congr {w : World} {r n m : Nat} {f g : Int → Option Value} (h : IM w r n f) (hf : ∀ k, f k = g k) (hn : n = m) : IM w r m g := by
  have : f = g := funext hf
  subst this; subst hn; exact h

theorem ch_setBlock {w : World} {r : Nat} {o : Obj} (h : r < w.heap.size) : Ch (fun k => k = r) w (setBlock w r o) :=
  ⟨rfl, rfl, rfl, by simp [setBlock], fun k _ hn => by simp [setBlock, Ne.symm hn]⟩

section
variable {P : Program} {w : World} {r n : Nat} {f : Int → Option Value}

theorem ikeys {es : Array MapEntry} (h : ∀ x ∈ es.toList, ∃ k, x.key = .int .i64 k ∧ f k = some x.val) : ∀ x ∈ es.toList, IsKey (.int .i64) x.key := by
  intro x hx
  obtain ⟨k, hk, _⟩ := h x hx
  rw [hk]; exact rfl

theorem ifind {es : Array MapEntry} (h : ∀ x ∈ es.toList, ∃ k, x.key = .int .i64 k ∧ f k = some x.val) (h2 : ∀ k v, f k = some v → ∃ x ∈ es.toList, x.key = .int .i64 k) (k : Int) :
    (Instr.findNow (.int .i64) (.int .i64 k) es.toList 0 = some none ∧ f k = none ∧ ∀ x ∈ es.toList, x.key ≠ .int .i64 k) ∨
    ∃ j e, Instr.findNow (.int .i64) (.int .i64 k) es.toList 0 = some (some (j, e.val)) ∧ es.toList[j]? = some e ∧ e.key = .int .i64 k ∧ f k = some e.val := by
  rcases findNow_spec (d := .int .i64) (k := .int .i64 k) rfl es.toList 0 (ikeys h) with ⟨h1, hn⟩ | ⟨j, e, h1, hj, he⟩
  · refine .inl ⟨h1, ?_, hn⟩
    cases hf : f k with
    | none => rfl
    | some v =>
      obtain ⟨x, hx, hxk⟩ := h2 k v hf
      exact absurd hxk (hn x hx)
  · refine .inr ⟨j, e, by simpa using h1, hj, he, ?_⟩
    obtain ⟨k', hk', hf'⟩ := h e (List.mem_of_getElem? hj)
    rw [he] at hk'
    cases hk'
    exact hf'

theorem IM.lookup {t kt et : TypeId} {z : Value} (h : IM w r n f) (ht : P.underlying t = some (.map kt et)) (hk : P.underlying kt = some (.int .i64)) (hz : (zeroValue et).run P w = .ok z w) (k : Int) (c : Bool) :
    (Instr.lookup t (.map (some r)) (.int .i64 k) c).run P w = .ok (if c then .tuple #[(f k).getD z, .bool (f k).isSome] else (f k).getD z) w := by
  obtain ⟨es, clock, hb, hs, hn, h1, h2⟩ := h
  rcases ifind h1 h2 k with ⟨a, b, _⟩ | ⟨j, e, a, b, d, g⟩
  · simp [Instr.lookup, run_underlying ht, MapKept.run_getObj_map hb, MapKept.run_checkKey (d := .int .i64) hk (k := .int .i64 k) rfl, MapKept.run_findKey hk a, hz, b, Result.andThen]
  · simp [Instr.lookup, run_underlying ht, MapKept.run_getObj_map hb, MapKept.run_checkKey (d := .int .i64) hk (k := .int .i64 k) rfl, MapKept.run_findKey hk a, g, Result.andThen]

theorem lookup_nil {t kt et : TypeId} {z : Value} (ht : P.underlying t = some (.map kt et)) (hk : P.underlying kt = some (.int .i64)) (hz : (zeroValue et).run P w = .ok z w) (k : Int) (c : Bool) :
    (Instr.lookup t (.map none) (.int .i64 k) c).run P w = .ok (if c then .tuple #[z, .bool false] else z) w := by
  have a : Instr.findNow (.int .i64) (.int .i64 k) [] 0 = some none := rfl
  simp [Instr.lookup, run_underlying ht, MapKept.run_checkKey (d := .int .i64) hk (k := .int .i64 k) rfl, MapKept.run_findKey hk a, hz, Result.andThen]

theorem imap_apart {es : Array MapEntry} {clock : Nat} (hs : Stamped es clock) {x y : MapEntry} (hx : x ∈ es.toList) (hy : y ∈ es.toList) (h : x.key = y.key) : x = y := by
  have := ((stamped_iff es clock).1 hs).2.2
  exact entry_eq_of_key this hx hy h

theorem IM.update {t kt et : TypeId} (h : IM w r n f) (ht : P.underlying t = some (.map kt et)) (hk : P.underlying kt = some (.int .i64)) (k : Int) (v : Value) :
    ∃ w', (Instr.mapUpdate t (.map (some r)) (.int .i64 k) v).run P w = .ok () w' ∧ IM w' r (if (f k).isSome then n else n + 1) (iput f k v) ∧ Ch (fun i => i = r) w w' ∧ w'.heap.size = w.heap.size := by
  have hlt := h.lt
  obtain ⟨es, clock, hb, hs, hn, h1, h2⟩ := h
  rcases ifind h1 h2 k with ⟨a, b, hne⟩ | ⟨j, e, a, b, d, g⟩
  · refine ⟨setBlock w r (.map (es.push { key := .int .i64 k, val := v, born := clock }) (clock + 1)), ?_, ⟨_, _, (MapKept.heap_set hb).1, stamped_push hs hne, ?_, ?_, ?_⟩, ch_setBlock hlt, by simp [setBlock]⟩
    · simp [Instr.mapUpdate, run_underlying ht, MapKept.run_getObj_map hb, MapKept.run_checkKey (d := .int .i64) hk (k := .int .i64 k) rfl, MapKept.run_findKey hk a, MapKept.run_setObj_map _ hb, setBlock, Result.andThen]
    · simp [b, hn]
    · intro x hx
      simp only [Array.toList_push, List.mem_append, List.mem_singleton] at hx
      rcases hx with hx | rfl
      · obtain ⟨i, hi, hfi⟩ := h1 x hx
        refine ⟨i, hi, ?_⟩
        unfold iput
        rw [if_neg]
        · exact hfi
        · rintro rfl; exact hne x hx hi
      · exact ⟨k, rfl, by simp [iput]⟩
    · intro i u hu
      unfold iput at hu
      by_cases hik : i = k
      · exact ⟨{ key := .int .i64 k, val := v, born := clock }, by simp, by rw [hik]⟩
      · rw [if_neg hik] at hu
        obtain ⟨x, hx, hxk⟩ := h2 i u hu
        exact ⟨x, by simp [Array.mem_toList_iff.1 hx], hxk⟩
  · have hj : es[j]? = some e := by simpa using b
    have hmem : e ∈ es.toList := List.mem_of_getElem? b
    have hkey : ∀ e', es[j]? = some e' → ({ e' with key := .int .i64 k, val := v } : MapEntry).key = e'.key := fun e' he' => by rw [hj] at he'; cases he'; exact d.symm
    have hget : ∀ i, (es.modify j fun e => { e with key := .int .i64 k, val := v })[i]? = if j = i then some { e with key := .int .i64 k, val := v } else es[i]? := by
      intro i
      rw [Array.getElem?_modify]
      split
      · rename_i q; subst q; simp [hj]
      · rfl
    refine ⟨setBlock w r (.map (es.modify j fun e => { e with key := .int .i64 k, val := v }) clock), ?_, ⟨_, _, (MapKept.heap_set hb).1, stamped_modify hs _ _ (fun _ _ => rfl) (fun e' _ he' => hkey e' he'), ?_, ?_, ?_⟩, ch_setBlock hlt, by simp [setBlock]⟩
    · simp [Instr.mapUpdate, run_underlying ht, MapKept.run_getObj_map hb, MapKept.run_checkKey (d := .int .i64) hk (k := .int .i64 k) rfl, MapKept.run_findKey hk a, hj, d, MapKept.run_keyThatStays (d := .int .i64) (k := .int .i64 k) rfl, MapKept.run_setObj_map _ hb, setBlock, Result.andThen]
    · simp [g, hn]
    · intro x hx
      obtain ⟨i, hi⟩ := List.getElem?_of_mem hx
      rw [Array.getElem?_toList, hget i] at hi
      by_cases hij : j = i
      · rw [if_pos hij] at hi
        cases hi
        exact ⟨k, rfl, by simp [iput]⟩
      · rw [if_neg hij] at hi
        have hxm : x ∈ es.toList := Array.mem_toList_iff.2 (Array.mem_of_getElem? hi)
        obtain ⟨i', hi', hfi⟩ := h1 x hxm
        refine ⟨i', hi', ?_⟩
        unfold iput
        rw [if_neg]
        · exact hfi
        · rintro rfl
          have hxe := imap_apart hs hxm hmem (hi'.trans d.symm)
          subst hxe
          have h3 := ((stamped_iff es clock).1 hs).2.2
          obtain ⟨p1, q1⟩ := Array.getElem?_eq_some_iff.1 hi
          obtain ⟨p2, q2⟩ := Array.getElem?_eq_some_iff.1 hj
          have h4 := List.pairwise_iff_getElem.1 h3
          rcases Nat.lt_or_gt_of_ne hij with hlt' | hlt'
          · exact h4 j i (by simpa using p2) (by simpa using p1) hlt' (by simp [q1, q2])
          · exact h4 i j (by simpa using p1) (by simpa using p2) hlt' (by simp [q1, q2])
    · intro i u hu
      unfold iput at hu
      by_cases hik : i = k
      · refine ⟨{ e with key := .int .i64 k, val := v }, ?_, by rw [hik]⟩
        apply Array.mem_toList_iff.2
        have := hget j
        rw [if_pos rfl] at this
        exact Array.mem_of_getElem? this
      · rw [if_neg hik] at hu
        obtain ⟨x, hx, hxk⟩ := h2 i u hu
        obtain ⟨i', hi'⟩ := List.getElem?_of_mem hx
        have hji : j ≠ i' := by
          rintro rfl
          rw [b] at hi'
          cases hi'
          rw [d] at hxk
          cases hxk
          exact hik rfl
        refine ⟨x, ?_, hxk⟩
        have h5 := hget i'
        rw [if_neg hji] at h5
        rw [Array.getElem?_toList] at hi'
        exact Array.mem_toList_iff.2 (Array.mem_of_getElem? (h5.trans hi'))

theorem IM.delete {t kt et ty : TypeId} (h : IM w r n f) (ht : P.underlying t = some (.map kt et)) (hk : P.underlying kt = some (.int .i64)) (k : Int) :
    ∃ w', (Builtin.delete_ #[t, kt] ty #[.map (some r), .int .i64 k]).run P w = .ok (.tuple #[]) w' ∧ IM w' r (if (f k).isSome then n - 1 else n) (idel f k) ∧ Ch (fun i => i = r) w w' ∧ w'.heap.size = w.heap.size := by
  have hlt := h.lt
  obtain ⟨es, clock, hb, hs, hn, h1, h2⟩ := h
  rcases ifind h1 h2 k with ⟨a, b, hne⟩ | ⟨j, e, a, b, d, g⟩
  · refine ⟨setBlock w r (.map es clock), ?_, ⟨_, _, (MapKept.heap_set hb).1, hs, ?_, ?_, ?_⟩, ch_setBlock hlt, by simp [setBlock]⟩
    · simp [Builtin.delete_, run_underlying ht, MapKept.run_getObj_map hb, MapKept.run_checkKey (d := .int .i64) hk (k := .int .i64 k) rfl, MapKept.run_findKey hk a, MapKept.run_setObj_map _ hb, setBlock, Result.andThen]
    · simp [b, hn]
    · intro x hx
      obtain ⟨i, hi, hfi⟩ := h1 x hx
      refine ⟨i, hi, ?_⟩
      unfold idel
      rw [if_neg]
      · exact hfi
      · rintro rfl; exact hne x hx hi
    · intro i u hu
      unfold idel at hu
      by_cases hik : i = k
      · rw [if_pos hik] at hu; cases hu
      · rw [if_neg hik] at hu
        exact h2 i u hu
  · have hjl : j < es.toList.length := (List.getElem?_eq_some_iff.1 b).1
    have hjs : j < es.size := by simpa using hjl
    have hsub : (es.eraseIdxIfInBounds j).toList = es.toList.eraseIdx j := by
      unfold Array.eraseIdxIfInBounds
      rw [dif_pos hjs]
      simp
    have hmem : e ∈ es.toList := List.mem_of_getElem? b
    have hwho : ∀ x, x ∈ (es.eraseIdxIfInBounds j).toList ↔ (x ∈ es.toList ∧ x.key ≠ .int .i64 k) := by
      intro x
      rw [hsub, List.mem_eraseIdx_iff_getElem?]
      have h4 := List.pairwise_iff_getElem.1 ((stamped_iff es clock).1 hs).2.2
      obtain ⟨p2, q2⟩ := List.getElem?_eq_some_iff.1 b
      constructor
      · rintro ⟨i, hne, hi⟩
        refine ⟨List.mem_of_getElem? hi, fun q => ?_⟩
        obtain ⟨p1, q1⟩ := List.getElem?_eq_some_iff.1 hi
        rcases Nat.lt_or_gt_of_ne hne with hlt' | hlt'
        · exact h4 i j p1 p2 hlt' (by rw [q1, q2, q, d])
        · exact h4 j i p2 p1 hlt' (by rw [q1, q2, q, d])
      · rintro ⟨hx, hne⟩
        obtain ⟨i, hi⟩ := List.getElem?_of_mem hx
        refine ⟨i, fun e1 => hne ?_, hi⟩
        rw [e1, b] at hi
        cases hi
        exact d
    refine ⟨setBlock w r (.map (es.eraseIdxIfInBounds j) clock), ?_, ⟨_, _, (MapKept.heap_set hb).1, stamped_erase hs j, ?_, ?_, ?_⟩, ch_setBlock hlt, by simp [setBlock]⟩
    · simp [Builtin.delete_, run_underlying ht, MapKept.run_getObj_map hb, MapKept.run_checkKey (d := .int .i64) hk (k := .int .i64 k) rfl, MapKept.run_findKey hk a, MapKept.run_setObj_map _ hb, setBlock, Result.andThen]
    · have : (es.eraseIdxIfInBounds j).size = (es.toList.eraseIdx j).length := by rw [← hsub, Array.length_toList]
      rw [this, List.length_eraseIdx_of_lt hjl]
      simp [g, hn]
    · intro x hx
      obtain ⟨hx, hxk⟩ := (hwho x).1 hx
      obtain ⟨i, hi, hfi⟩ := h1 x hx
      refine ⟨i, hi, ?_⟩
      unfold idel
      rw [if_neg]
      · exact hfi
      · rintro rfl; exact hxk hi
    · intro i u hu
      unfold idel at hu
      by_cases hik : i = k
      · rw [if_pos hik] at hu; cases hu
      · rw [if_neg hik] at hu
        obtain ⟨x, hx, hxk⟩ := h2 i u hu
        exact ⟨x, (hwho x).2 ⟨hx, by rw [hxk]; intro q; cases q; exact hik rfl⟩, hxk⟩

theorem IM.len {t kt et ty : TypeId} (h : IM w r n f) (ht : P.underlying t = some (.map kt et)) : (Builtin.len_ #[t] ty #[.map (some r)]).run P w = .ok (.int .i64 n) w := by
  obtain ⟨es, clock, hb, hs, hn, h1, h2⟩ := h
  simp [Builtin.len_, run_underlying ht, MapKept.run_getObj_map hb, goInt, hn, Result.andThen]

theorem len_nil {t kt et ty : TypeId} (ht : P.underlying t = some (.map kt et)) : (Builtin.len_ #[t] ty #[.map none]).run P w = .ok (.int .i64 0) w := by
  simp [Builtin.len_, run_underlying ht, goInt, Result.andThen]

/-! ### a range over a map that the loop does not write -/

/-- Block b is an iterator over the map in block r; left: the keys that are still to come. -/
def IR (w : World) (r b n : Nat) (f : Int → Option Value) (left : Int → Bool) : Prop :=
  ∃ es clock since seen c0, w.heap[r]? = some (.map es clock) ∧ Stamped es clock ∧ es.size = n ∧ (∀ x ∈ es.toList, ∃ k, x.key = .int .i64 k ∧ f k = some x.val) ∧ (∀ k v, f k = some v → ∃ x ∈ es.toList, x.key = .int .i64 k) ∧
    w.heap[b]? = some (.mapIter (some r) since seen c0) ∧ (∀ x ∈ es.toList, x.born < since) ∧ since ≤ c0 ∧ since ≤ clock ∧
    (∀ x ∈ es.toList, ∀ k, x.key = .int .i64 k → left k = !seen.contains x.born) ∧ ∀ k, left k = true → (f k).isSome = true

theorem IR.map {b : Nat} {left : Int → Bool} (h : IR w r b n f left) : IM w r n f := by
  obtain ⟨es, clock, since, seen, c0, hb, hs, hn, h1, h2, _⟩ := h
  exact ⟨es, clock, hb, hs, hn, h1, h2⟩

theorem IR.keep {S : Nat → Prop} {w' : World} {b : Nat} {left : Int → Bool} (h : IR w r b n f left) (hc : Ch S w w') (hr : ¬ S r) (hb : ¬ S b) : IR w' r b n f left := by
  obtain ⟨es, clock, since, seen, c0, hm, hs, hn, h1, h2, hi, rest⟩ := h
  exact ⟨es, clock, since, seen, c0, hc.keep hm hr, hs, hn, h1, h2, hc.keep hi hb, rest⟩

theorem IR.ne {b : Nat} {left : Int → Bool} (h : IR w r b n f left) : b ≠ r := by
  obtain ⟨es, clock, since, seen, c0, hm, hs, hn, h1, h2, hi, rest⟩ := h
  rintro rfl
  rw [hm] at hi; cases hi

theorem IR.lt {b : Nat} {left : Int → Bool} (h : IR w r b n f left) : b < w.heap.size := by
  obtain ⟨es, clock, since, seen, c0, hm, hs, hn, h1, h2, hi, rest⟩ := h
  exact lt_of_block hi

/-- how many are to come: for a measure -/
def iterLeft (w : World) (r b : Nat) : Nat :=
  match w.heap[r]?, w.heap[b]? with
  | some (.map es _), some (.mapIter _ _ seen _) => (leftOf es seen).size
  | _, _ => 0

theorem iterLeft_keep {S : Nat → Prop} {w' : World} {b : Nat} {left : Int → Bool} (h : IR w r b n f left) (hc : Ch S w w') (hr : ¬ S r) (hb : ¬ S b) : iterLeft w' r b = iterLeft w r b := by
  have hl := h.lt
  have hl2 := h.map.lt
  unfold iterLeft
  rw [hc.block r hl2 hr, hc.block b hl hb]

theorem IM.range {t kt et : TypeId} (h : IM w r n f) (ht : P.underlying t = some (.map kt et)) :
    ∃ w', (Instr.range t (.map (some r))).run P w = .ok (.pointer (some ⟨w.heap.size, 0, none⟩)) w' ∧ IR w' r w.heap.size n f (fun k => (f k).isSome) ∧ Ch0 w w' ∧ w'.heap.size = w.heap.size + 1 := by
  have hlt := h.lt
  obtain ⟨es, clock, hb, hs, hn, h1, h2⟩ := h
  refine ⟨_, run_range_map w t kt et r es clock ht hb, ⟨es, clock, clock, #[], clock, ((MapKept.heap_alloc w _).2 r hlt).trans hb, hs, hn, h1, h2, (MapKept.heap_alloc w _).1, hs.1, Nat.le_refl _, Nat.le_refl _, ?_, fun k hk => hk⟩, (Ch.refl _ _).alloc _, by simp⟩
  intro x hx k hk
  obtain ⟨k', hk', hf⟩ := h1 x hx
  rw [hk] at hk'; cases hk'
  simp [hf]

theorem IR.next {b : Nat} {left : Int → Bool} (h : IR w r b n f left) (ty : TypeId) :
    ((∀ k, left k = false) ∧ (Instr.next (.pointer (some ⟨b, 0, none⟩)) false ty).run P w = .ok (.tuple #[.bool false]) w) ∨
    ∃ k v w', left k = true ∧ f k = some v ∧ (Instr.next (.pointer (some ⟨b, 0, none⟩)) false ty).run P w = .ok (.tuple #[.bool true, .int .i64 k, v]) w' ∧ IR w' r b n f (fun i => left i && !(i == k)) ∧ Ch (fun i => i = b) w w' ∧
      w'.heap.size = w.heap.size ∧ iterLeft w' r b < iterLeft w r b ∧ (Instr.entry (.pointer (some ⟨b, 0, none⟩))).run P w' = .ok (.tuple #[.int .i64 k, v]) w' := by
  have hne := h.ne
  obtain ⟨es, clock, since, seen, c0, hm, hs, hn, h1, h2, hi, hold, hsc, hsk, hl, hl2⟩ := h
  rcases run_next_at (P := P) w ty b r since c0 seen es clock hi hm hold hsc with ⟨h0, hrun⟩ | ⟨e, he, w1, hal, hrun⟩
  · refine .inl ⟨fun k => ?_, hrun⟩
    cases hk : left k with
    | false => rfl
    | true =>
      obtain ⟨v, hv⟩ := Option.isSome_iff_exists.1 (hl2 k hk)
      obtain ⟨x, hx, hxk⟩ := h2 k v hv
      rw [hl x hx k hxk, all_seen es seen h0 x hx] at hk
      cases hk
  · obtain ⟨hem, hes⟩ := mem_left he
    obtain ⟨k, hk, hf⟩ := h1 e hem
    have hst := (stamped_iff es clock).1 hs
    have hi1 : w1.heap[b]? = some (.mapIter (some r) since seen c0) := by rcases hal with rfl | rfl <;> exact hi
    have hm1 : w1.heap[r]? = some (.map es clock) := by rcases hal with rfl | rfl <;> exact hm
    have hset := MapKept.heap_set (o' := .mapIter (some r) since (seen.push e.born) clock) hi1
    have hm' : (setBlock w1 b (.mapIter (some r) since (seen.push e.born) clock)).heap[r]? = some (.map es clock) := (hset.2 r (fun e1 => hne e1.symm)).trans hm1
    have hi' : (setBlock w1 b (.mapIter (some r) since (seen.push e.born) clock)).heap[b]? = some (.mapIter (some r) since (seen.push e.born) clock) := hset.1
    refine .inr ⟨k, e.val, _, by rw [hl e hem k hk, hes]; rfl, hf, by rw [hrun, hk], ⟨es, clock, since, seen.push e.born, clock, hm', hs, hn, h1, h2, hi', hold, hsk, hsk, fun x hx i hxi => ?_, fun i hik => hl2 i (by simp at hik; exact hik.1)⟩, ?_, ?_, ?_, ?_⟩
    · show (left i && !(i == k)) = _
      rw [hl x hx i hxi, contains_push]
      by_cases hik : i = k
      · subst hik
        have := imap_apart hs hx hem (hxi.trans hk.symm)
        subst this
        simp
      · have hb : (x.born == e.born) = false := by
          rw [beq_eq_false_iff_ne]
          intro q
          have := born_inj hst.2.1 hx hem q
          subst this
          rw [hxi] at hk; cases hk; exact hik rfl
        rw [hb, beq_eq_false_iff_ne.2 hik]
        simp
    · have hc : Ch (fun i => i = b) w1 (setBlock w1 b (.mapIter (some r) since (seen.push e.born) clock)) := ch_setBlock (lt_of_block hi1)
      rcases hal with rfl | rfl
      · exact hc
      · exact ⟨hc.os, hc.tape, hc.output, hc.size, hc.block⟩
    · rcases hal with rfl | rfl <;> simp [setBlock]
    · have e1 : iterLeft (setBlock w1 b (.mapIter (some r) since (seen.push e.born) clock)) r b = (leftOf es (seen.push e.born)).size := by unfold iterLeft; rw [hm', hi']
      have e2 : iterLeft w r b = (leftOf es seen).size := by unfold iterLeft; rw [hm, hi]
      rw [e1, e2]
      exact left_shrinks es seen e he
    · rw [run_entry_at _ b r since seen es clock e hi' hm' hem hst.2.1, hk]
end

/-! ### at the operation -/
section
variable {P : Program} {w : World} {ops : Array Oper} {rest : List Oper} {o : Oper} {a : Act} {Q : Exit → Act → World → Prop}

/-- '(at_lookup; refine wpList_lookup_run rfl _ _ T rfl rfl rfl hrun ?_)' -/
theorem wpList_lookup_run (hg : o.guard = none) (m x : Operand) (t : TypeId) {c : Bool} (hop : o.op = Op.lookup t m x c) {mv key v : Value} (hm : a.eval m = mv) (hx : a.eval x = key)
    (hrun : (Instr.lookup t mv key c).run P w = .ok v w) (hK : wpList P ops Q rest (a.put o.dst v) w) : wpList P ops Q (o :: rest) a w := by
  refine wpList_plain hg fun K' hK' => ?_
  unfold Oper.wp
  simp [execOp, hop, hm, hx, hrun, Result.andThen]
  exact hK' _ _ hK

/-- '(at_mapUpdate; refine wpList_mapUpdate_run rfl _ _ _ T rfl rfl rfl rfl hrun ?_)' -/
theorem wpList_mapUpdate_run (hg : o.guard = none) (m x y : Operand) (t : TypeId) (hop : o.op = Op.mapUpdate t m x y) {mv key v : Value} {w' : World} (hm : a.eval m = mv) (hx : a.eval x = key) (hy : a.eval y = v)
    (hrun : (Instr.mapUpdate t mv key v).run P w = .ok () w') (hK : wpList P ops Q rest (a.put o.dst undef) w') : wpList P ops Q (o :: rest) a w := by
  refine wpList_plain hg fun K' hK' => ?_
  unfold Oper.wp
  simp [execOp, hop, hm, hx, hy, hrun, Result.andThen]
  exact hK' _ _ hK

theorem wpList_delete_run (hg : o.guard = none) (m x : Operand) (t k : TypeId) (hop : o.op = Op.call { callee := Callee.builtin Builtin.delete, args := #[m, x], argTypes := #[t, k] }) {mv key : Value} {w' : World} (hm : a.eval m = mv) (hx : a.eval x = key)
    (hrun : (Builtin.delete_ #[t, k] o.type #[mv, key]).run P w = .ok (.tuple #[]) w') (hK : wpList P ops Q rest (a.put o.dst (.tuple #[])) w') : wpList P ops Q (o :: rest) a w := by
  refine wpList_plain hg fun K' hK' => ?_
  unfold Oper.wp
  simp [execOp, hop, resolve, invoke, builtin, hm, hx, hrun, Result.andThen]
  exact hK' _ _ hK

theorem wpList_len_run (hg : o.guard = none) (m : Operand) (t : TypeId) (hop : o.op = Op.call { callee := Callee.builtin Builtin.len, args := #[m], argTypes := #[t] }) {mv v : Value} (hm : a.eval m = mv)
    (hrun : (Builtin.len_ #[t] o.type #[mv]).run P w = .ok v w) (hK : wpList P ops Q rest (a.put o.dst v) w) : wpList P ops Q (o :: rest) a w := by
  refine wpList_plain hg fun K' hK' => ?_
  unfold Oper.wp
  simp [execOp, hop, resolve, invoke, builtin, hm, hrun, Result.andThen]
  exact hK' _ _ hK

theorem wpList_range_run (hg : o.guard = none) (m : Operand) (t : TypeId) (hop : o.op = Op.range t m) {mv v : Value} {w' : World} (hm : a.eval m = mv)
    (hrun : (Instr.range t mv).run P w = .ok v w') (hK : wpList P ops Q rest (a.put o.dst v) w') : wpList P ops Q (o :: rest) a w := by
  refine wpList_plain hg fun K' hK' => ?_
  unfold Oper.wp
  simp [execOp, hop, hm, hrun, Result.andThen]
  exact hK' _ _ hK

theorem wpList_next_run (hg : o.guard = none) (it : Operand) (hop : o.op = Op.next it false) {iv v : Value} {w' : World} (hit : a.eval it = iv)
    (hrun : (Instr.next iv false o.type).run P w = .ok v w') (hK : wpList P ops Q rest (a.put o.dst v) w') : wpList P ops Q (o :: rest) a w := by
  refine wpList_plain hg fun K' hK' => ?_
  unfold Oper.wp
  simp [execOp, hop, hit, hrun, Result.andThen]
  exact hK' _ _ hK

/-- the step of a range over an IR -/
theorem wpList_next_IR (hg : o.guard = none) (it : Operand) (hop : o.op = Op.next it false) {r b n : Nat} {f : Int → Option Value} {left : Int → Bool} (hit : a.eval it = .pointer (some ⟨b, 0, none⟩)) (h : IR w r b n f left)
    (hDone : (∀ k, left k = false) → wpList P ops Q rest (a.put o.dst (.tuple #[.bool false])) w)
    (hMore : ∀ k v w', left k = true → f k = some v → IR w' r b n f (fun i => left i && !(i == k)) → Ch (fun i => i = b) w w' → w'.heap.size = w.heap.size → iterLeft w' r b < iterLeft w r b →
      (Instr.entry (.pointer (some ⟨b, 0, none⟩))).run P w' = .ok (.tuple #[.int .i64 k, v]) w' → wpList P ops Q rest (a.put o.dst (.tuple #[.bool true, .int .i64 k, v])) w') : wpList P ops Q (o :: rest) a w := by
  rcases h.next (P := P) o.type with ⟨h0, hrun⟩ | ⟨k, v, w', h1, h2, hrun, h3, h4, h5, h6, h7⟩
  · exact wpList_next_run hg it hop hit hrun (hDone h0)
  · exact wpList_next_run hg it hop hit hrun (hMore k v w' h1 h2 h3 h4 h5 h6 h7)
end

end Go.Proofs.Ytlmeponoadhheaa

/-
  A map that may be nil, and a range over it; how many entries a map has. General, of no program.
-/
namespace Go.Proofs.Ytlmeponoadhheaa
set_option linter.unusedVariables false
open Go.RowKit

/-- The map value m has n entries, and reads as f; it may be nil. -/
def IMx (w : World) (m : Value) (n : Nat) (f : Int → Option Value) : Prop := (m = .map none ∧ n = 0 ∧ ∀ k, f k = none) ∨ ∃ r, m = .map (some r) ∧ IM w r n f

/-- Block b is an iterator over the map value m. -/
def IRx (w : World) (m : Value) (b n : Nat) (f : Int → Option Value) (left : Int → Bool) : Prop :=
  (m = .map none ∧ w.heap[b]? = some (.mapIter none 0 #[] 0) ∧ ∀ k, left k = false) ∨ ∃ r, m = .map (some r) ∧ IR w r b n f left

def iterLeftX (w : World) (m : Value) (b : Nat) : Nat :=
  match m with
  | .map (some r) => iterLeft w r b
  | _ => 0

theorem IRx.keep {S : Nat → Prop} {w w' : World} {m : Value} {b n : Nat} {f : Int → Option Value} {left : Int → Bool} (h : IRx w m b n f left) (hc : Ch S w w') (hr : ∀ r, m = .map (some r) → ¬ S r) (hb : ¬ S b) : IRx w' m b n f left := by
  rcases h with ⟨h1, h2, h3⟩ | ⟨r, h1, h2⟩
  · exact .inl ⟨h1, hc.keep h2 hb, h3⟩
  · exact .inr ⟨r, h1, h2.keep hc (hr r h1) hb⟩

theorem iterLeftX_keep {S : Nat → Prop} {w w' : World} {m : Value} {b n : Nat} {f : Int → Option Value} {left : Int → Bool} (h : IRx w m b n f left) (hc : Ch S w w') (hr : ∀ r, m = .map (some r) → ¬ S r) (hb : ¬ S b) : iterLeftX w' m b = iterLeftX w m b := by
  rcases h with ⟨rfl, h2, h3⟩ | ⟨r, rfl, h2⟩
  · rfl
  · exact iterLeft_keep h2 hc (hr r rfl) hb

theorem IRx.lt {w : World} {m : Value} {b n : Nat} {f : Int → Option Value} {left : Int → Bool} (h : IRx w m b n f left) : b < w.heap.size := by
  rcases h with ⟨_, h2, _⟩ | ⟨r, _, h2⟩
  · exact lt_of_block h2
  · exact h2.lt

section
variable {P : Program} {w : World}

theorem IMx.range {m : Value} {n : Nat} {f : Int → Option Value} {t kt et : TypeId} (h : IMx w m n f) (ht : P.underlying t = some (.map kt et)) :
    ∃ w', (Instr.range t m).run P w = .ok (.pointer (some ⟨w.heap.size, 0, none⟩)) w' ∧ IRx w' m w.heap.size n f (fun k => (f k).isSome) ∧ Ch0 w w' ∧ w'.heap.size = w.heap.size + 1 := by
  rcases h with ⟨rfl, rfl, hf⟩ | ⟨r, rfl, h⟩
  · exact ⟨_, run_range_nilMap w t kt et ht, .inl ⟨rfl, heap_alloc_new w _, fun k => by simp [hf]⟩, (Ch.refl _ _).alloc _, by simp⟩
  · obtain ⟨w', h1, h2, h3, h4⟩ := h.range (P := P) ht
    exact ⟨w', h1, .inr ⟨r, rfl, h2⟩, h3, h4⟩

theorem next_nil {b : Nat} (ty : TypeId) (h : w.heap[b]? = some (.mapIter none 0 #[] 0)) :
    (Instr.next (.pointer (some ⟨b, 0, none⟩)) false ty).run P w = .ok (.tuple #[.bool false]) w := by
  simp only [Instr.next, getObj, Sem.run_bind, Sem.run, h, Result.andThen]
  rfl

/-- the step of a range over a map that may be nil -/
theorem wpList_next_IRx {ops : Array Oper} {rest : List Oper} {o : Oper} {a : Act} {Q : Exit → Act → World → Prop} (hg : o.guard = none) (it : Operand) (hop : o.op = Op.next it false) {m : Value} {b n : Nat} {f : Int → Option Value} {left : Int → Bool}
    (hit : a.eval it = .pointer (some ⟨b, 0, none⟩)) (h : IRx w m b n f left)
    (hDone : (∀ k, left k = false) → wpList P ops Q rest (a.put o.dst (.tuple #[.bool false])) w)
    (hMore : ∀ k v w', left k = true → f k = some v → IRx w' m b n f (fun i => left i && !(i == k)) → Ch (fun i => i = b) w w' → w'.heap.size = w.heap.size → iterLeftX w' m b < iterLeftX w m b →
      (Instr.entry (.pointer (some ⟨b, 0, none⟩))).run P w' = .ok (.tuple #[.int .i64 k, v]) w' → wpList P ops Q rest (a.put o.dst (.tuple #[.bool true, .int .i64 k, v])) w') : wpList P ops Q (o :: rest) a w := by
  rcases h with ⟨rfl, h2, h3⟩ | ⟨r, rfl, h⟩
  · exact wpList_next_run hg it hop hit (next_nil _ h2) (hDone h3)
  · exact wpList_next_IR hg it hop hit h hDone (fun k v w' a b c d e g i => hMore k v w' a b (.inr ⟨r, rfl, c⟩) d e g i)

end

/-- distinct keys that are all keys: as many as there are entries -/
theorem IM.count {w : World} {r n : Nat} {f : Int → Option Value} (h : IM w r n f) {ks : List Int} (hn : ks.Nodup) (hk : ∀ k, k ∈ ks ↔ (f k).isSome = true) : ks.length = n := by
  obtain ⟨es, clock, hb, hs, hsz, h1, h2⟩ := h
  have hap := ((Go.MapKept.stamped_iff es clock).1 hs).2.2
  have hN : (es.toList.map fun x => x.key).Nodup := by
    unfold List.Nodup
    rw [List.pairwise_map]
    exact hap.imp (fun {a b} q => q)
  have hN2 : (ks.map (Value.int .i64)).Nodup := by
    unfold List.Nodup at hn ⊢
    rw [List.pairwise_map]
    exact hn.imp (fun {a b} q e => by cases e; exact q rfl)
  have hp : (ks.map (Value.int .i64)).Perm (es.toList.map fun x => x.key) := by
    rw [List.perm_ext_iff_of_nodup hN2 hN]
    intro v
    constructor
    · intro hv
      obtain ⟨k, hkm, rfl⟩ := List.mem_map.1 hv
      obtain ⟨u, hu⟩ := Option.isSome_iff_exists.1 ((hk k).1 hkm)
      obtain ⟨x, hx, hxk⟩ := h2 k u hu
      exact List.mem_map.2 ⟨x, hx, hxk⟩
    · intro hv
      obtain ⟨x, hx, rfl⟩ := List.mem_map.1 hv
      obtain ⟨k, hxk, hfk⟩ := h1 x hx
      exact List.mem_map.2 ⟨k, (hk k).2 (by rw [hfk]; rfl), hxk.symm⟩
  have := hp.length_eq
  simpa [hsz] using this

end Go.Proofs.Ytlmeponoadhheaa

/-
  A range over a map from which what has come is deleted. General, of no program.
-/
namespace Go.Proofs.Ytlmeponoadhheaa
set_option linter.unusedVariables false
open Go.RowKit
open Go.MapKept (Stamped IsKey stamped_empty stamped_push stamped_modify stamped_erase stamped_iff findNow_spec)
open Go.ChangeMaps (setBlock)

section
variable {P : Program} {w : World} {r n : Nat} {f : Int → Option Value}

/-- What has come is deleted: the range goes on. -/
theorem IR.delete {b : Nat} {left : Int → Bool} {t kt et ty : TypeId} (h : IR w r b n f left) (ht : P.underlying t = some (.map kt et)) (hk : P.underlying kt = some (.int .i64)) (k : Int) (hf : (f k).isSome = true) (hl : left k = false) :
    ∃ w', (Builtin.delete_ #[t, kt] ty #[.map (some r), .int .i64 k]).run P w = .ok (.tuple #[]) w' ∧ IR w' r b (n - 1) (idel f k) left ∧ Ch (fun i => i = r) w w' ∧ w'.heap.size = w.heap.size ∧ iterLeft w' r b = iterLeft w r b := by
  have hlt := h.map.lt
  have hne := h.ne
  obtain ⟨es, clock, since, seen, c0, hb, hs, hn, h1, h2, hi, hold, hsc, hsk, hle, hl2⟩ := h
  rcases ifind h1 h2 k with ⟨a, bb, hne⟩ | ⟨j, e, a, bb, d, g⟩
  · rw [bb] at hf; cases hf
  · have hjl : j < es.toList.length := (List.getElem?_eq_some_iff.1 bb).1
    have hjs : j < es.size := by simpa using hjl
    have hsub : (es.eraseIdxIfInBounds j).toList = es.toList.eraseIdx j := by
      unfold Array.eraseIdxIfInBounds
      rw [dif_pos hjs]
      simp
    have hmem : e ∈ es.toList := List.mem_of_getElem? bb
    have hwho : ∀ x, x ∈ (es.eraseIdxIfInBounds j).toList ↔ (x ∈ es.toList ∧ x.key ≠ .int .i64 k) := by
      intro x
      rw [hsub, List.mem_eraseIdx_iff_getElem?]
      have h4 := List.pairwise_iff_getElem.1 ((stamped_iff es clock).1 hs).2.2
      obtain ⟨p2, q2⟩ := List.getElem?_eq_some_iff.1 bb
      constructor
      · rintro ⟨i, hne, hi⟩
        refine ⟨List.mem_of_getElem? hi, fun q => ?_⟩
        obtain ⟨p1, q1⟩ := List.getElem?_eq_some_iff.1 hi
        rcases Nat.lt_or_gt_of_ne hne with hlt' | hlt'
        · exact h4 i j p1 p2 hlt' (by rw [q1, q2, q, d])
        · exact h4 j i p2 p1 hlt' (by rw [q1, q2, q, d])
      · rintro ⟨hx, hne⟩
        obtain ⟨i, hi⟩ := List.getElem?_of_mem hx
        refine ⟨i, fun e1 => hne ?_, hi⟩
        rw [e1, bb] at hi
        cases hi
        exact d
    have hset := MapKept.heap_set (o' := .map (es.eraseIdxIfInBounds j) clock) hb
    have hi' : (setBlock w r (.map (es.eraseIdxIfInBounds j) clock)).heap[b]? = some (.mapIter (some r) since seen c0) := (hset.2 b hne).trans hi
    refine ⟨setBlock w r (.map (es.eraseIdxIfInBounds j) clock), ?_, ⟨_, _, since, seen, c0, hset.1, stamped_erase hs j, ?_, ?_, ?_, hi', ?_, hsc, hsk, ?_, ?_⟩, ch_setBlock hlt, by simp [setBlock], ?_⟩
    · simp [Builtin.delete_, run_underlying ht, MapKept.run_getObj_map hb, MapKept.run_checkKey (d := .int .i64) hk (k := .int .i64 k) rfl, MapKept.run_findKey hk a, MapKept.run_setObj_map _ hb, setBlock, Result.andThen]
    · have : (es.eraseIdxIfInBounds j).size = (es.toList.eraseIdx j).length := by rw [← hsub, Array.length_toList]
      rw [this, List.length_eraseIdx_of_lt hjl]
      simp [hn]
    · intro x hx
      obtain ⟨hx, hxk⟩ := (hwho x).1 hx
      obtain ⟨i, hi, hfi⟩ := h1 x hx
      refine ⟨i, hi, ?_⟩
      unfold idel
      rw [if_neg]
      · exact hfi
      · rintro rfl; exact hxk hi
    · intro i u hu
      unfold idel at hu
      by_cases hik : i = k
      · rw [if_pos hik] at hu; cases hu
      · rw [if_neg hik] at hu
        obtain ⟨x, hx, hxk⟩ := h2 i u hu
        exact ⟨x, (hwho x).2 ⟨hx, by rw [hxk]; intro q; cases q; exact hik rfl⟩, hxk⟩
    · exact fun x hx => hold x ((hwho x).1 hx).1
    · exact fun x hx => hle x ((hwho x).1 hx).1
    · intro i hi
      unfold idel
      rw [if_neg]
      · exact hl2 i hi
      · rintro rfl; rw [hl] at hi; cases hi
    · have e1 : iterLeft (setBlock w r (.map (es.eraseIdxIfInBounds j) clock)) r b = (leftOf (es.eraseIdxIfInBounds j) seen).size := by unfold iterLeft; rw [show (setBlock w r (.map (es.eraseIdxIfInBounds j) clock)).heap[r]? = some (.map (es.eraseIdxIfInBounds j) clock) from hset.1, hi']
      have e2 : iterLeft w r b = (leftOf es seen).size := by unfold iterLeft; rw [hb, hi]
      rw [e1, e2]
      have hse : seen.contains e.born = true := by
        have := hle e hmem k d
        rw [hl] at this
        cases h : seen.contains e.born with
        | true => rfl
        | false => rw [h] at this; cases this
      unfold leftOf
      have hfil : ((es.eraseIdxIfInBounds j).filter (fun e => !seen.contains e.born)).toList = (es.filter (fun e => !seen.contains e.born)).toList := by
        rw [Array.toList_filter, Array.toList_filter, hsub, List.eraseIdx_eq_take_drop_succ, List.filter_append]
        have hsp : es.toList = es.toList.take j ++ e :: es.toList.drop (j + 1) := by
          obtain ⟨p2, q2⟩ := List.getElem?_eq_some_iff.1 bb
          rw [← q2, List.getElem_cons_drop, List.take_append_drop]
        conv => rhs; rw [hsp]
        rw [List.filter_append, List.filter_cons]
        rw [hse]
        rfl
      rw [← Array.length_toList, hfil, Array.length_toList]

end

end Go.Proofs.Ytlmeponoadhheaa

/-
  Slices that lie anywhere in a row of their own (behind x[1:] too), and append on them. General, of no program.
-/
namespace Go.Proofs.Ytlmeponoadhheaa
set_option linter.unusedVariables false
open Go.RowKit

/-- the block in which a slice lies -/
def rblk : Value → Option Nat
  | .slice (some a) _ _ => some a.block
  | _ => none

/-- v is a slice of n elements (size cells each) that holds xs: nil, or in a block of cells of type e, from cell o on, with all its room. -/
def RowAt (w : World) (e : TypeId) (size : Nat) (v : Value) (n : Nat) (xs : List Value) : Prop :=
  xs.length = n * size ∧ ((v = .slice none 0 0 ∧ n = 0) ∨
    ∃ g o cap cur, v = .slice (some ⟨g, o, none⟩) n cap ∧ w.heap[g]? = some (.cells cur e (0, 0)) ∧ n ≤ cap ∧ cap ≤ maxLen ∧ o + cap * size ≤ cur.size ∧ (cur.toList.drop o).take (n * size) = xs)

theorem RowAt.nil {w : World} {e : TypeId} {size : Nat} : RowAt w e size (.slice none 0 0) 0 [] := ⟨by simp, .inl ⟨rfl, rfl⟩⟩

theorem rowAt_of_owns {w : World} {e : TypeId} {size : Nat} {v : Value} {n : Nat} {xs : List Value} (h : w.ownsRow 0 e size v n xs) : RowAt w e size v n xs ∧ rblk v = v.ownBlock := by
  obtain ⟨h1, h2⟩ := h
  rcases h2 with ⟨rfl, rfl⟩ | ⟨g, cap, cur, rfl, hb, hg, hn, hm, hs, ht⟩
  · exact ⟨⟨h1, .inl ⟨rfl, rfl⟩⟩, rfl⟩
  · exact ⟨⟨h1, .inr ⟨g, 0, cap, cur, rfl, hg, hn, hm, by omega, by simpa using ht⟩⟩, rfl⟩

theorem RowAt.keep {S : Nat → Prop} {w w' : World} {e : TypeId} {size : Nat} {v : Value} {n : Nat} {xs : List Value} (h : RowAt w e size v n xs) (hc : Ch S w w') (hn : ∀ k, rblk v = some k → ¬ S k) : RowAt w' e size v n xs := by
  refine ⟨h.1, ?_⟩
  rcases h.2 with hl | ⟨g, o, cap, cur, rfl, hg, r⟩
  · exact .inl hl
  · exact .inr ⟨g, o, cap, cur, rfl, hc.keep hg (hn g rfl), r⟩

theorem RowAt.lt {w : World} {e : TypeId} {size : Nat} {v : Value} {n : Nat} {xs : List Value} (h : RowAt w e size v n xs) {g : Nat} (hg : rblk v = some g) : g < w.heap.size := by
  rcases h.2 with ⟨rfl, _⟩ | ⟨g', o, cap, cur, rfl, hb, r⟩
  · cases hg
  · cases hg; exact lt_of_block hb

/-- the row's block holds cells of its type -/
theorem RowAt.block {w : World} {e : TypeId} {size : Nat} {v : Value} {n : Nat} {xs : List Value} (h : RowAt w e size v n xs) {g : Nat} (hg : rblk v = some g) : ∃ cur, w.heap[g]? = some (.cells cur e (0, 0)) := by
  rcases h.2 with ⟨rfl, _⟩ | ⟨g', o, cap, cur, rfl, hb, r⟩
  · cases hg
  · cases hg; exact ⟨cur, hb⟩

theorem RowAt.isSlice {w : World} {e : TypeId} {size : Nat} {v : Value} {n : Nat} {xs : List Value} (h : RowAt w e size v n xs) : ∃ a c, v = .slice a n c ∧ n ≤ c ∧ c ≤ maxLen := by
  rcases h.2 with ⟨rfl, rfl⟩ | ⟨g', o, cap, cur, rfl, hb, hn, hm, r⟩
  · exact ⟨none, 0, rfl, Nat.le_refl _, by decide⟩
  · exact ⟨_, _, rfl, hn, hm⟩

theorem RowAt.sees {w : World} {e : TypeId} {size : Nat} {v : Value} {n : Nat} {xs : List Value} (h : RowAt w e size v n xs) : Sees (fun k => rblk v = some k) w v size n xs := by
  refine ⟨h.1, ?_⟩
  rcases h.2 with ⟨rfl, rfl⟩ | ⟨g, o, cap, cur, rfl, hg, hn, hm, hs, ht⟩
  · exact ⟨none, 0, rfl, Nat.le_refl _, by decide, .inl rfl⟩
  · refine ⟨_, cap, rfl, hn, hm, .inr ⟨g, o, rfl, rfl, fun i u hu => ?_⟩⟩
    rw [cell_of_row w g _ _ _ _ hg]
    rw [← ht, List.getElem?_take] at hu
    split at hu
    · rw [List.getElem?_drop, Array.getElem?_toList] at hu; exact hu
    · cases hu

/-- one element less in front: size 1 -/
theorem RowAt.tail {w : World} {e : TypeId} {v : Value} {n : Nat} {x : Value} {xs : List Value} (h : RowAt w e 1 v (n + 1) (x :: xs)) :
    ∃ g o cap, v = .slice (some ⟨g, o, none⟩) (n + 1) cap ∧ n + 1 ≤ cap ∧ cap ≤ maxLen ∧ w.cell? ⟨g, o, none⟩ = some x ∧
      RowAt w e 1 (.slice (if cap = 1 then some ⟨g, o, none⟩ else some ⟨g, o + 1, none⟩) n (cap - 1)) n xs ∧ w.heap[g]?.isSome := by
  have hl := h.1
  have hlen := h.sees
  rcases h.2 with ⟨_, hn⟩ | ⟨g, o, cap, cur, rfl, hg, hn, hm, hs, ht⟩
  · omega
  · refine ⟨g, o, cap, rfl, hn, hm, ?_, ⟨by simp at hl ⊢; exact hl, ?_⟩, by rw [hg]; rfl⟩
    · rw [cell_of_row w g _ _ _ _ hg]
      have h0 : ((cur.toList.drop o).take ((n + 1) * 1))[0]? = some x := by rw [ht]; rfl
      rw [List.getElem?_take, if_pos (by omega), List.getElem?_drop, Array.getElem?_toList] at h0
      exact h0
    · have hdrop : (cur.toList.drop (o + 1)).take (n * 1) = xs := by
        have h1 : (cur.toList.drop (o + 1)).take (n * 1) = ((cur.toList.drop o).take ((n + 1) * 1)).drop 1 := by
          rw [List.drop_take, List.drop_drop]
          congr 1
        rw [h1, ht]; rfl
      by_cases hc : cap = 1
      · rw [if_pos hc]
        obtain rfl : n = 0 := by omega
        refine .inr ⟨g, o, cap - 1, cur, rfl, hg, by omega, by omega, by omega, ?_⟩
        have hx : xs = [] := List.eq_nil_of_length_eq_zero (by simpa using hl)
        rw [hx]; rfl
      · rw [if_neg hc]
        exact .inr ⟨g, o + 1, cap - 1, cur, rfl, hg, by omega, by omega, by omega, hdrop⟩

section
variable {P : Program} (w : World)

/-- append on such a slice -/
theorem append_at (t ty e : TypeId) (i : TypeInfo) (z : Value) (size bytes : Nat) (ht : P.underlying t = some (.slice e)) (hi : P.info? e = some i) (hz : i.zero = some z)
    (hsize : i.size = size) (hby : i.bytes = bytes) (hzs : z.cells.size = size)
    (v : Value) (n : Nat) (xs : List Value) (hown : RowAt w e size v n xs)
    (x : Value) (m : Nat) (news : List Value) {D : Nat → Prop} (hx : Sees D w x size m news) (h1 : ∀ u ∈ news, u.oneCell' = true)
    (h63 : n + m ≤ maxLen) (hbytes : (n + m) * bytes ≤ 140737488355328) :
    ∃ v' w', (Builtin.append_ #[t, t] ty #[v, x]).run P w = .ok v' w' ∧ RowAt w' e size v' (n + m) (xs ++ news) ∧ Ch (fun k => rblk v = some k) w w' ∧
      (rblk v' = rblk v ∨ rblk v' = some w.heap.size) := by
  rcases Classical.em (∃ g cap, v = .slice (some ⟨g, 0, none⟩) n cap ∧ False) with ⟨_, _, _, hf⟩ | _
  · exact hf.elim
  subst hsize
  subst hby
  have hsees := hown.sees
  rcases hown.2 with ⟨rfl, rfl⟩ | ⟨g, o, cap, cur, rfl, hg, hnc, hcm, hcs, htake⟩
  · have ho : w.ownsRow 0 e i.size (.slice none 0 0) 0 xs := ⟨hown.1, .inl ⟨rfl, rfl⟩⟩
    obtain ⟨v', w', hr, h2, h3, h4, _⟩ := append_law w t ty e i z i.size i.bytes ht hi hz rfl rfl hzs _ 0 xs ho x m news hx h1 h63 hbytes
    obtain ⟨h5, h6⟩ := rowAt_of_owns h2
    refine ⟨v', w', hr, h5, h3.mono (fun k _ q => by simp [Value.ownBlock] at q), ?_⟩
    rw [h6]
    exact h4.imp (fun q => by rw [q]; rfl) id
  · obtain ⟨hl, a, c, rfl, hmc, hcm', hcells⟩ := hx
    have hsmall : n + m ≤ 9223372036854775807 := by simp only [maxLen] at h63; omega
    have hlen : (xs ++ news).length = (n + m) * i.size := by rw [List.length_append, hown.1, hl, Nat.add_mul]
    have hxcells : ∀ j u, xs[j]? = some u → w.cell? ((⟨g, o, none⟩ : Addr).add j) = some u := by
      intro j u hu
      obtain ⟨_, a', c', e1, _, _, h9⟩ := hsees
      cases e1
      rcases h9 with h9 | ⟨g', o', _, e2, h9⟩
      · subst h9
        have := List.eq_nil_of_length_eq_zero (by simpa using hown.1)
        subst this; simp at hu
      · cases e2
        rw [addr_add]; exact h9 j u hu
    by_cases hroom : n + m ≤ cap
    · have hfit : o + n * i.size + news.length ≤ cur.size := by
        have : (n + m) * i.size ≤ cap * i.size := Nat.mul_le_mul_right _ hroom
        rw [Nat.add_mul] at this
        rw [hl]; omega
      have hf : (Builtin.firstCells i.size m (.slice a m c)).run P w = .ok news.toArray w := by
        rcases hcells with rfl | ⟨g', o', _, rfl, hc⟩
        · have hn : news = [] := List.eq_nil_of_length_eq_zero (by simpa using hl)
          subst hn
          cases a <;> simp [Builtin.firstCells, loadCells, loadCellsFrom]
        · exact run_firstCells_some (P := P) w i.size m ⟨g', o', none⟩ m c news hl (fun j u hu => by rw [addr_add]; exact hc j u hu)
      have hst := run_storeCells_at P g (o + n * i.size) e news 0 cur w hg (by simpa using hfit) h1
      simp only [Nat.add_zero] at hst
      have hrun : (Builtin.append_ #[t, t] ty #[.slice (some ⟨g, o, none⟩) n cap, .slice a m c]).run P w =
          .ok (.slice (some ⟨g, o, none⟩) (n + m) cap) (w.setRow g (cur.toList.take (o + n * i.size) ++ news ++ cur.toList.drop (o + n * i.size + news.length)).toArray) := by
        simp [Builtin.append_, run_underlying ht, sizeOf, typeInfo, hi, Builtin.lenOf, hroom, hf, addr_add, hst]
      refine ⟨_, _, hrun, ⟨hlen, .inr ⟨g, o, cap, _, rfl, setRow_heap w g cur _ e _ hg, hroom, hcm, ?_, ?_⟩⟩, Ch.setRow (Ch.refl _ w) g (fun _ => by simp [rblk]) _, .inl rfl⟩
      · simp only [List.size_toArray, List.length_append, List.length_take, List.length_drop, Array.length_toList]
        omega
      · simp only
        have e1 : cur.toList.take (o + n * i.size) = cur.toList.take o ++ xs := by
          rw [← htake, List.take_add]
        have hol : o ≤ cur.toList.length := by rw [Array.length_toList]; omega
        rw [e1, List.append_assoc, List.append_assoc, List.drop_append_of_le_length (by simp [List.length_take]; omega)]
        rw [List.drop_of_length_le (by simp [List.length_take]; omega), List.nil_append, ← List.append_assoc, ← hlen]
        exact List.take_left
    · have hm : 0 < m := by omega
      obtain ⟨g', o', _, rfl, hcl⟩ := hcells.resolve_left (by omega)
      have hnews : ∀ j u, news[j]? = some u → w.cell? ((⟨g', o', none⟩ : Addr).add j) = some u := fun j u hu => by rw [addr_add]; exact hcl j u hu
      have hr := run_append_grow (P := P) w t ty e i z ht hi hz ⟨g, o, none⟩ n cap xs hown.1 hxcells ⟨g', o', none⟩ m c news hl hnews (by omega) (by omega) (growslice_fits (by omega) hbytes)
      have hge := grownCap_ge w (n + m) cap e
      have hcm2 : grownCap w (n + m) cap e ≤ maxLen := grownCap_le_maxLen w (n + m) cap e h63
      refine ⟨_, _, hr, ⟨hlen, .inr ⟨w.heap.size, 0, _, _, rfl, heap_alloc_new w.drew _, hge, hcm2, ?_, ?_⟩⟩, ((Ch.refl _ _).drew).alloc _, .inr rfl⟩
      · simp only [Array.size_append, List.size_toArray, size_zeroCells, hzs, hown.1, hl, ← Nat.add_mul, Nat.zero_add]
        exact Nat.mul_le_mul_right _ (by omega)
      · simp only [Array.toList_append, List.append_assoc, List.drop_zero]
        rw [← List.append_assoc, ← hlen]
        exact List.take_left

/-- at a step of a region that draws its order -/
theorem step_append_at {w : World} {ops : Array Oper} {o : Oper} {a : Act} {K : Act → World → Prop} {Q : Exit → Act → World → Prop} {E : Prop} (hgd : o.guard = none) (s x : Operand) (t : TypeId)
    (ho : o.op = .call { callee := .builtin .append, args := #[s, x], argTypes := #[t, t] })
    (e : TypeId) (i : TypeInfo) (z : Value) (size bytes : Nat) (ht : P.underlying t = some (.slice e)) (hi : P.info? e = some i) (hz : i.zero = some z)
    (hsize : i.size = size) (hby : i.bytes = bytes) (hzs : z.cells.size = size)
    (v : Value) (n : Nat) (xs : List Value) (hs : a.eval s = v) (hown : RowAt w e size v n xs)
    (y : Value) (m : Nat) (news : List Value) (hx : a.eval x = y) {D : Nat → Prop} (hsee : Sees D w y size m news) (h1 : ∀ u ∈ news, u.oneCell' = true)
    (h63 : n + m ≤ maxLen) (hbytes : (n + m) * bytes ≤ 140737488355328)
    (h : ∀ a' c' w', RowAt w' e size (.slice a' (n + m) c') (n + m) (xs ++ news) → Ch (fun k => rblk v = some k) w w' → (rblk (.slice a' (n + m) c') = rblk v ∨ rblk (.slice a' (n + m) c') = some w.heap.size) → K (a.put o.dst (.slice a' (n + m) c')) w') :
    if Region.wanted o (yielded ops a.tmps) = true then Oper.wp P o a w K Q else E := by
  have hw : Region.wanted o (yielded ops a.tmps) = true := by simp [Region.wanted, hgd]
  rw [if_pos hw]
  obtain ⟨v', w', hrun, h2, h3, h4⟩ := append_at w t o.type e i z size bytes ht hi hz hsize hby hzs v n xs hown y m news hsee h1 h63 hbytes
  obtain ⟨a', c', rfl, -, -⟩ := h2.isSlice
  unfold Oper.wp execOp
  simp only [ho, resolve, invoke, builtin, Sem.run_bind, Sem.run_pure, Result.andThen_ok, List.map_toArray, List.map_cons, List.map_nil, hs, hx, hrun]
  exact h a' c' w' h2 h3 h4

end

/-- a block of one cell, as a slice of one element -/
theorem sees_one_cell {w : World} {g : Nat} {x : Value} {T : TypeId} (h : w.heap[g]? = some (.cells #[x] T (0, 0))) : Sees (fun k => k = g) w (.slice (some ⟨g, 0, none⟩) 1 1) 1 1 [x] := by
  refine ⟨rfl, _, 1, rfl, Nat.le_refl _, by decide, .inr ⟨g, 0, rfl, rfl, fun i u hu => ?_⟩⟩
  have hi : i = 0 := by
    have := (List.getElem?_eq_some_iff.1 hu).1
    simpa using this
  subst hi
  rw [cell_of_row w g _ _ _ _ h]
  simpa using hu

end Go.Proofs.Ytlmeponoadhheaa

/-
  append of one integer to a slice of integers: at a step of a region that draws its order; at a plain operation.
-/
namespace Go.Proofs.Ytlmeponoadhheaa
set_option linter.unusedVariables false
open Go.RowKit

theorem Try.info3 : (Try.prog.info? 3).map (fun i => (i.zero, i.size, i.bytes)) = some (some (.int .i64 0), 1, 8) := by kernel_rfl

/-- append of one integer, at a step of a region that draws its order -/
theorem step_int {w1 : World} {v : Value} {n : Nat} {xs : List Int} {x : Int} {a : Option Addr} {c : Nat} (hrow : RowAt w1 3 1 v n (xs.map (Value.int .i64))) (ev : v = .slice a n c) (hlen : n < 4294967296)
    {ops : Array Oper} {o : Oper} {aa : Act} {K : Act → World → Prop} {Q : Exit → Act → World → Prop} {E : Prop} (wx : World) (G : Nat) (hgd : o.guard = none) (s y : Operand)
    (ho : o.op = .call { callee := .builtin .append, args := #[s, y], argTypes := #[34, 34] }) (hs : aa.eval s = .slice a n c) (hy : aa.eval y = .slice (some ⟨G, 0, none⟩) 1 1)
    (hG : wx.heap[G]? = some (.cells #[.int .i64 x] 3 (0, 0))) (c0 : Ch0 w1 wx)
    (hK : ∀ a' c' w', RowAt w' 3 1 (.slice a' (n + 1) c') (n + 1) ((xs ++ [x]).map (Value.int .i64)) → Ch (fun k => rblk v = some k) wx w' → (rblk (.slice a' (n + 1) c') = rblk v ∨ rblk (.slice a' (n + 1) c') = some wx.heap.size) →
      Ch0 w1 wx → K (aa.put o.dst (.slice a' (n + 1) c')) w') :
    if Region.wanted o (yielded ops aa.tmps) = true then Oper.wp Try.prog o aa wx K Q else E := by
  obtain ⟨i0, hi, hz0, hz1, hz2⟩ := info_parts Try.info3
  refine step_append_at (P := Try.prog) hgd s y 34 ho 3 i0 _ 1 8 Try.underlying34 hi hz0 hz1 hz2 rfl v n (xs.map (Value.int .i64)) (hs.trans ev.symm) (hrow.keep c0 (fun _ _ q => q)) _ 1 [.int .i64 x] hy (sees_one_cell hG) (one_ints [x]) ?_ ?_ ?_
  · unfold maxLen; omega
  · omega
  · intro a' c' w' h2 h3 h4
    refine hK a' c' w' ?_ h3 h4 c0
    simpa using h2

/-- append of one integer, its run -/
theorem run_int {w : World} {v : Value} {n : Nat} {xs : List Int} (hrow : RowAt w 3 1 v n (xs.map (Value.int .i64))) (hlen : n < 4294967296) (G : Nat) (x : Int)
    (hG : w.heap[G]? = some (.cells #[.int .i64 x] 3 (0, 0))) (ty : TypeId) :
    ∃ a' c' w', (Builtin.append_ #[34, 34] ty #[v, .slice (some ⟨G, 0, none⟩) 1 1]).run Try.prog w = .ok (.slice a' (n + 1) c') w' ∧ RowAt w' 3 1 (.slice a' (n + 1) c') (n + 1) ((xs ++ [x]).map (Value.int .i64)) ∧
      Ch (fun k => rblk v = some k) w w' ∧ (rblk (.slice a' (n + 1) c') = rblk v ∨ rblk (.slice a' (n + 1) c') = some w.heap.size) := by
  obtain ⟨i0, hi, hz0, hz1, hz2⟩ := info_parts Try.info3
  obtain ⟨v', w', hrun, h2, h3, h4⟩ := append_at w 34 ty 3 i0 _ 1 8 Try.underlying34 hi hz0 hz1 hz2 rfl v n _ hrow _ 1 [.int .i64 x] (sees_one_cell hG) (one_ints [x]) (by unfold maxLen; omega) (by omega)
  obtain ⟨a', c', rfl, -, -⟩ := h2.isSlice
  exact ⟨a', c', w', hrun, by simpa using h2, h3, h4⟩

/-- append of all of a slice of integers, its run -/
theorem run_ints {w : World} {v : Value} {n : Nat} {xs : List Int} (hrow : RowAt w 3 1 v n (xs.map (Value.int .i64))) (hlen : n < 4294967296) {D : Nat → Prop} {y : Value} {ys : List Int}
    (hy : SeesI D w y ys) (hlen2 : ys.length < 4294967296) (ty : TypeId) :
    ∃ a' c' w', (Builtin.append_ #[34, 34] ty #[v, y]).run Try.prog w = .ok (.slice a' (n + ys.length) c') w' ∧ RowAt w' 3 1 (.slice a' (n + ys.length) c') (n + ys.length) ((xs ++ ys).map (Value.int .i64)) ∧
      Ch (fun k => rblk v = some k) w w' ∧ (rblk (.slice a' (n + ys.length) c') = rblk v ∨ rblk (.slice a' (n + ys.length) c') = some w.heap.size) := by
  obtain ⟨i0, hi, hz0, hz1, hz2⟩ := info_parts Try.info3
  obtain ⟨v', w', hrun, h2, h3, h4⟩ := append_at w 34 ty 3 i0 _ 1 8 Try.underlying34 hi hz0 hz1 hz2 rfl v n _ hrow _ _ _ hy (one_ints ys) (by unfold maxLen; omega) (by omega)
  obtain ⟨a', c', rfl, -, -⟩ := h2.isSlice
  exact ⟨a', c', w', hrun, by simpa using h2, h3, h4⟩

end Go.Proofs.Ytlmeponoadhheaa

/-
  A block of slices of integers, each a row of its own ([][]int, a struct of slices). General, but for the type int.
-/
namespace Go.Proofs.Ytlmeponoadhheaa
set_option linter.unusedVariables false
open Go.RowKit

def updF {α : Type} (q : Nat → α) (i : Nat) (x : α) : Nat → α := fun j => if j = i then x else q j
theorem updF_same {α : Type} (q : Nat → α) (i : Nat) (x : α) : updF q i x i = x := by simp [updF]
theorem updF_other {α : Type} (q : Nat → α) (i : Nat) (x : α) {j : Nat} (h : j ≠ i) : updF q i x j = q j := by simp [updF, h]

/-- Block g holds n slices of integers; the i-th reads as q i; O: the blocks that are its own. -/
structure RS (w : World) (g : Nat) (T : TypeId) (n : Nat) (O : Nat → Prop) (q : Nat → List Int) (vs : Nat → Value) : Prop where
  blk : w.heap[g]? = some (.cells ((List.range n).map vs).toArray T (0, 0))
  own : O g
  small : ∀ k, O k → k < w.heap.size
  row : ∀ i, i < n → RowAt w 3 1 (vs i) (q i).length ((q i).map (Value.int .i64))
  rowO : ∀ i, i < n → ∀ k, rblk (vs i) = some k → O k ∧ k ≠ g
  apart : ∀ i j, i < n → j < n → i ≠ j → ∀ k, rblk (vs i) = some k → rblk (vs j) ≠ some k

/-- what a call may do to an object: only its own blocks turn, and what is its own then was its own, or is new -/
def Turn (w w' : World) (O O' : Nat → Prop) : Prop := Ch O w w' ∧ ∀ k, O' k → O k ∨ w.heap.size ≤ k

/-- two objects share no block -/
def Apart (O O' : Nat → Prop) : Prop := ∀ k, O k → O' k → False

theorem Apart.symm {O O' : Nat → Prop} (h : Apart O O') : Apart O' O := fun k a b => h k b a

theorem Apart.turn {w w' : World} {O O1 O' : Nat → Prop} (h : Apart O O') (t : Turn w w' O O1) (hs : ∀ k, O' k → k < w.heap.size) : Apart O1 O' := fun k a b => by
  rcases t.2 k a with e | e
  · exact h k e b
  · have := hs k b; omega

theorem Turn.refl (w : World) (O : Nat → Prop) : Turn w w O O := ⟨Ch.refl _ _, fun _ h => .inl h⟩

theorem Turn.of0 {w w' : World} (O : Nat → Prop) (h : Ch0 w w') : Turn w w' O O := ⟨h.of0, fun _ h => .inl h⟩

theorem Turn.trans {w w1 w2 : World} {O O1 O2 : Nat → Prop} (h : Turn w w1 O O1) (k : Turn w1 w2 O1 O2) : Turn w w2 O O2 := by
  have hs := h.1.size
  refine ⟨⟨k.1.os.trans h.1.os, k.1.tape.trans h.1.tape, k.1.output.trans h.1.output, Nat.le_trans h.1.size k.1.size, fun j hj hn => ?_⟩, fun j hj => ?_⟩
  · rw [k.1.block j (Nat.lt_of_lt_of_le hj hs) (fun q => ?_), h.1.block j hj hn]
    rcases h.2 j q with q | q
    · exact hn q
    · omega
  · rcases k.2 j hj with q | q
    · exact h.2 j q
    · right; omega

theorem Turn.after {w w1 w2 : World} {O O' : Nat → Prop} (h : Turn w w1 O O') (c : Ch0 w1 w2) : Turn w w2 O O' := ⟨h.1.trans0 c, h.2⟩

/-- of what was there before the object nothing is turned -/
theorem Ch0.turn {w w1 w2 : World} {O O' : Nat → Prop} (h : Ch0 w w1) (t : Turn w1 w2 O O') (hO : ∀ k, O k → w.heap.size ≤ k) : Ch0 w w2 ∧ ∀ k, O' k → w.heap.size ≤ k := by
  have hs := h.size
  refine ⟨h.trans' t.1 (fun _ _ e => e) (fun k hk e => ?_), fun k hk => ?_⟩
  · have := hO k e; omega
  · rcases t.2 k hk with e | e
    · exact hO k e
    · omega

theorem cells_range {n : Nat} (vs : Nat → Value) (i : Nat) (hi : i < n) : (((List.range n).map vs).toArray)[i]? = some (vs i) := by
  simp [hi]

theorem range_set {n : Nat} (vs : Nat → Value) (i : Nat) (v : Value) : (((List.range n).map vs).toArray).setIfInBounds i v = ((List.range n).map (updF vs i v)).toArray := by
  apply Array.ext
  · simp
  · intro j h1 h2
    simp only [List.size_toArray, List.length_map, List.length_range] at h2
    simp only [List.getElem_toArray, List.getElem_map, List.getElem_range, updF]
    by_cases h : i = j
    · subst h; simp
    · simp [h, Ne.symm h]

section
variable {w : World} {g : Nat} {T : TypeId} {n : Nat} {O : Nat → Prop} {q : Nat → List Int} {vs : Nat → Value}

theorem RS.cell (h : RS w g T n O q vs) {i : Nat} (hi : i < n) : w.cell? ⟨g, i, none⟩ = some (vs i) := by
  rw [cell_of_row w g i _ _ _ h.blk, cells_range vs i hi]

theorem RS.free (h : RS w g T n O q vs) (i : Nat) : w.frozen? ⟨g, i, none⟩ = false := frozen_of_row w g i _ _ h.blk

theorem RS.keep {w' : World} {S : Nat → Prop} (h : RS w g T n O q vs) (c : Ch S w w') (hn : ∀ k, O k → ¬ S k) : RS w' g T n O q vs where
  blk := c.keep h.blk (hn g h.own)
  own := h.own
  small := fun k hk => Nat.lt_of_lt_of_le (h.small k hk) c.size
  row := fun i hi => (h.row i hi).keep c (fun k hk => hn k (h.rowO i hi k hk).1)
  rowO := h.rowO
  apart := h.apart

theorem RS.ne_row (h : RS w g T n O q vs) {i : Nat} (hi : i < n) : rblk (vs i) ≠ some g := fun e => (h.rowO i hi g e).2 rfl

/-- one row is other -/
theorem RS.turn {w4 : World} (h : RS w g T n O q vs) {i : Nat} (hi : i < n) {v' : Value} {xs : List Int}
    (c : Ch (fun k => rblk (vs i) = some k) w w4) (hrow : RowAt w4 3 1 v' xs.length (xs.map (Value.int .i64))) (hv : rblk v' = rblk (vs i) ∨ rblk v' = none ∨ ∃ k, rblk v' = some k ∧ w.heap.size ≤ k) :
    RS (w4.setCell ⟨g, i, none⟩ v') g T n (fun k => O k ∨ rblk v' = some k) (updF q i xs) (updF vs i v') ∧ Turn w (w4.setCell ⟨g, i, none⟩ v') O (fun k => O k ∨ rblk v' = some k) := by
  have hblk4 := c.keep h.blk (h.ne_row hi)
  have hsz := c.size
  have hlt := h.small g h.own
  have hbv : ∀ k, rblk v' = some k → k ≠ g := by
    intro k hk
    rcases hv with e | e | ⟨k', e, hge⟩
    · rw [e] at hk; exact (h.rowO i hi k hk).2
    · rw [e] at hk; cases hk
    · rw [e] at hk; cases hk; omega
  have cset : Ch (fun k => k = g) w4 (w4.setCell ⟨g, i, none⟩ v') := Ch.setCell (S := fun k => k = g) (Ch.refl _ _) (p := ⟨g, i, none⟩) (fun _ => rfl) _
  refine ⟨⟨?_, .inl h.own, ?_, ?_, ?_, ?_⟩, ?_, ?_⟩
  · rw [heap_setCell_same w4 g i _ _ _ hblk4, range_set]
  · rintro k (hk | hk)
    · have := h.small k hk
      simp [World.setCell]; omega
    · have := hrow.lt hk
      simpa [World.setCell] using this
  · intro j hj
    by_cases hji : j = i
    · subst hji
      rw [updF_same, updF_same]
      exact hrow.keep cset (fun k hk e => hbv k hk e)
    · rw [updF_other _ _ _ hji, updF_other _ _ _ hji]
      exact ((h.row j hj).keep c (fun k hk e => h.apart j i hj hi hji k hk e)).keep cset (fun k hk e => h.ne_row hj (e ▸ hk))
  · intro j hj k hk
    by_cases hji : j = i
    · subst hji; rw [updF_same] at hk; exact ⟨.inr hk, hbv k hk⟩
    · rw [updF_other _ _ _ hji] at hk; exact ⟨.inl (h.rowO j hj k hk).1, (h.rowO j hj k hk).2⟩
  · have key : ∀ j, j < n → j ≠ i → ∀ k, rblk (vs j) = some k → rblk v' ≠ some k := by
      intro j hj hji k hk e
      rcases hv with e1 | e1 | ⟨k', e1, hge⟩
      · rw [e1] at e; exact h.apart j i hj hi hji k hk e
      · rw [e1] at e; cases e
      · rw [e1] at e; cases e
        have := (h.row j hj).lt hk
        omega
    intro j1 j2 h1 h2 hne k hk
    by_cases hj1 : j1 = i
    · subst hj1
      rw [updF_same] at hk
      rw [updF_other _ _ _ (Ne.symm hne)]
      intro e
      exact key j2 h2 (Ne.symm hne) k e hk
    · rw [updF_other _ _ _ hj1] at hk
      by_cases hj2 : j2 = i
      · subst hj2
        rw [updF_same]
        exact key j1 h1 hj1 k hk
      · rw [updF_other _ _ _ hj2]
        exact h.apart j1 j2 h1 h2 hne k hk
  · refine c.trans' cset (fun k _ e => (h.rowO i hi k e).1) ?_
    rintro k _ rfl; exact h.own
  · rintro k (hk | hk)
    · exact .inl hk
    · rcases hv with e1 | e1 | ⟨k', e1, hge⟩
      · rw [e1] at hk; exact .inl (h.rowO i hi k hk).1
      · rw [e1] at hk; cases hk
      · rw [e1] at hk; cases hk; exact .inr hge

end

/-- a block of nil slices, just made -/
theorem rs_new {w : World} {g : Nat} {T : TypeId} {n : Nat} (h : w.heap[g]? = some (.cells ((List.range n).map (fun _ => .slice none 0 0)).toArray T (0, 0))) :
    RS w g T n (fun k => k = g) (fun _ => []) (fun _ => .slice none 0 0) := by
  refine ⟨h, rfl, ?_, fun i hi => RowAt.nil, fun i hi k hk => (by cases hk), fun i j _ _ _ k hk => (by cases hk)⟩
  rintro k rfl; exact lt_of_block h

end Go.Proofs.Ytlmeponoadhheaa

/-
  Contract of the document's Same: are two lists of integers alike?
-/
namespace Go.Proofs.Ytlmeponoadhheaa
set_option linter.unusedVariables false
open Go.RowKit

theorem ch_drewN (w : World) (n : Nat) : Ch0 w (w.drewN n) := (Ch.refl _ _).drewN n

theorem sees_drewN {D : Nat → Prop} {w : World} {v : Value} {size n : Nat} {l : List Value} (h : Sees D w v size n l) (k : Nat) : Sees D (w.drewN k) v size n l := h.keep (ch_drewN w k) (fun _ _ q => q)

theorem ext_getD {xs ys : List Int} (hl : xs.length = ys.length) (h : ∀ m, m < xs.length → xs.getD m 0 = ys.getD m 0) : xs = ys := by
  apply List.ext_getElem hl
  intro m h1 h2
  have := h m h1
  simpa [List.getD_eq_getElem?_getD, List.getElem?_eq_getElem h1, List.getElem?_eq_getElem h2] using this

theorem getD_eq_of {xs ys : List Int} (hl : xs.length = ys.length) (h : ∀ m, m < xs.length → xs.getD m 0 = ys.getD m 0) : xs = ys := ext_getD hl h

set_option maxHeartbeats 400000 in
theorem same_any (D E : Nat → Prop) (u v : Value) (xs ys : List Int) (w : World) (hu : SeesI D w u xs) (hv : SeesI E w v ys) :
    Calls Try.prog 41 #[u, v] w fun e w' => e = .returned (.bool (decide (xs = ys))) ∧ ∃ n, w' = w.drewN n := by
  obtain ⟨a, c, rfl, hxl⟩ := hu.len
  obtain ⟨a', c', rfl, hyl⟩ := hv.len
  by_cases hl : xs.length = ys.length
  · have t0 : ((xs.length : Int) != ys.length) = false := by rw [hl]; simp
    have hl' : decide (xs.length = ys.length) = true := by simpa using hl
    have HL := Lib.hid hl
    clear hl hl'
    go_enter Try.func41, Try.ntmps41
    go_wp2
    go_loopw [13] (fun i wr => ∃ j : Nat, j ≤ xs.length ∧ i = .int .i64 j ∧ (∀ m, m < j → xs.getD m 0 = ys.getD m 0) ∧ ∃ n, wr = w.drewN n) (fun i _ => xs.length - (intOf i).toNat)
    case atStart => exact ⟨0, Nat.zero_le _, rfl, fun m hm => by omega, 0, rfl⟩
    case round =>
      obtain ⟨j, hj, rfl, heq, nq, rfl⟩ := hrel
      by_cases hlt : j < xs.length
      · obtain ⟨g, o, c1, -, hs1, hc1⟩ := SeesI.cell hu (by omega)
        have hlt' : j < ys.length := by rw [← HL.out]; exact hlt
        obtain ⟨g', o', c2, -, hs2, hc2⟩ := SeesI.cell hv (by omega)
        obtain ⟨rfl, rfl⟩ : a = some ⟨g, o, none⟩ ∧ c = c1 := by simpa using hs1
        obtain ⟨rfl, rfl⟩ : a' = some ⟨g', o', none⟩ ∧ c' = c2 := by simpa using hs2
        have h1 := hc1 j hlt
        have h2 := hc2 j hlt'
        have HE := Lib.hid heq
        clear hs1 hs2 hc1 hc2 heq hu hv
        generalize hX : xs.getD j 0 = X at *
        generalize hY : ys.getD j 0 = Y at *
        have HX := Lib.hid hX
        have HY := Lib.hid hY
        clear hX hY
        have i1 : (0 : Int) ≤ j := by omega
        have i2 : (j : Int) < xs.length := by omega
        have i3 : (j : Int) < ys.length := by omega
        go_wp2
        go_quiet (fail)
        by_cases hxy : X = Y
        · have t1 : (X != Y) = false := by simpa using hxy
          clear hxy
          go_wp2
          go_roundw
          case rel =>
            refine ⟨j + 1, by omega, by go_num, ?_, _, rfl⟩
            intro m hm
            by_cases e : m = j
            · subst e; rw [HX.out, HY.out]; simpa using t1
            · exact HE.out m (by omega)
          case measure => simp [intOf]; omega
        · have t1 : (X != Y) = true := by simpa using hxy
          have hd : decide (xs = ys) = false := by
            apply decide_eq_false
            intro h
            rw [h] at HX
            exact hxy (HX.out.symm.trans HY.out)
          have HD := Lib.hid hd
          clear hd hxy
          go_wp2
          go_ret
          exact ⟨by rw [HD.out]; rfl, _, by first | rfl | exact World.drewN_drewN _ _ _⟩
      · obtain rfl : j = xs.length := by omega
        have hd : decide (xs = ys) = true := decide_eq_true (getD_eq_of HL.out heq)
        have HD := Lib.hid hd
        clear hd heq
        go_wp2
        go_ret
        exact ⟨by rw [HD.out]; rfl, _, by first | rfl | exact World.drewN_drewN _ _ _⟩
  · have t0 : ((xs.length : Int) != ys.length) = true := bne_iff_ne.2 (by omega)
    have hd : decide (xs = ys) = false := decide_eq_false fun h => hl (by rw [h])
    have HD := Lib.hid hd
    clear hd hl
    go_enter Try.func41, Try.ntmps41
    go_wp2
    go_ret
    exact ⟨by rw [HD.out]; rfl, 0, rfl⟩

end Go.Proofs.Ytlmeponoadhheaa

/-
  What lies aside of an object: facts on other blocks, that outlive the object's turns. General, of no program.
-/
namespace Go.Proofs.Ytlmeponoadhheaa
set_option linter.unusedVariables false
open Go.RowKit

theorem turn_ch0 {w0 w w' : World} {O O' : Nat → Prop} (t : Turn w w' O O') (c : Ch0 w0 w) (f : ∀ k, O k → w0.heap.size ≤ k) : Ch0 w0 w' ∧ ∀ k, O' k → w0.heap.size ≤ k := Ch0.turn c t f

/-- X speaks of the blocks of D alone; these are not the object's. -/
structure Aside (w : World) (O D : Nat → Prop) (X : World → Prop) : Prop where
  x : X w
  k : ∀ (w w' : World) (S : Nat → Prop), Ch S w w' → (∀ k, D k → ¬ S k) → X w → X w'
  off : ∀ k, D k → ¬ O k
  lt : ∀ k, D k → k < w.heap.size

section
variable {w w' : World} {O O' D D' : Nat → Prop} {X Y : World → Prop}

theorem Aside.turn (h : Aside w O D X) (t : Turn w w' O O') : Aside w' O' D X where
  x := h.k _ _ _ t.1 h.off h.x
  k := h.k
  off := fun k hk e => by
    rcases t.2 k e with e | e
    · exact h.off k hk e
    · have := h.lt k hk; omega
  lt := fun k hk => Nat.lt_of_lt_of_le (h.lt k hk) t.1.size

theorem Aside.chg {S : Nat → Prop} (h : Aside w O D X) (c : Ch S w w') (hS : ∀ k, D k → ¬ S k) : Aside w' O D X where
  x := h.k _ _ _ c hS h.x
  k := h.k
  off := h.off
  lt := fun k hk => Nat.lt_of_lt_of_le (h.lt k hk) c.size

theorem Aside.new (h : Aside w O D X) (c : Ch0 w w') : Aside w' O D X := h.chg c (fun _ _ e => e)

theorem Aside.and (h : Aside w O D X) (g : Aside w O D' Y) : Aside w O (fun k => D k ∨ D' k) (fun w => X w ∧ Y w) where
  x := ⟨h.x, g.x⟩
  k := fun w w' S c hS x => ⟨h.k w w' S c (fun k hk => hS k (.inl hk)) x.1, g.k w w' S c (fun k hk => hS k (.inr hk)) x.2⟩
  off := fun k hk => hk.elim (h.off k) (g.off k)
  lt := fun k hk => hk.elim (h.lt k) (g.lt k)

theorem Aside.block {b : Nat} {o : Obj} (h : w.heap[b]? = some o) (hO : ¬ O b) : Aside w O (fun k => k = b) (fun w => w.heap[b]? = some o) where
  x := h
  k := fun w w' S c hS x => c.keep x (hS b rfl)
  off := fun k hk => by rw [hk]; exact hO
  lt := fun k hk => by rw [hk]; exact lt_of_block h

theorem Aside.row {e : TypeId} {size : Nat} {v : Value} {n : Nat} {xs : List Value} (h : RowAt w e size v n xs) (hO : ∀ k, rblk v = some k → ¬ O k) : Aside w O (fun k => rblk v = some k) (fun w => RowAt w e size v n xs) where
  x := h
  k := fun w w' S c hS x => x.keep c hS
  off := hO
  lt := fun k hk => h.lt hk

theorem Aside.mono (h : Aside w O D X) (hO : ∀ k, O' k → O k) : Aside w O' D X where
  x := h.x
  k := h.k
  off := fun k hk e => h.off k hk (hO k e)
  lt := h.lt

end

/-- an object that is the call's own -/
structure Mine (w0 w : World) (O : Nat → Prop) : Prop where
  ch : Ch0 w0 w
  f : ∀ k, O k → w0.heap.size ≤ k

theorem Mine.turn {w0 w w' : World} {O O' : Nat → Prop} (h : Mine w0 w O) (t : Turn w w' O O') : Mine w0 w' O' := by
  obtain ⟨a, b⟩ := turn_ch0 t h.ch h.f
  exact ⟨a, b⟩

theorem Mine.new {w0 w w' : World} {O : Nat → Prop} (h : Mine w0 w O) (c : Ch0 w w') : Mine w0 w' O := ⟨h.ch.trans c, h.f⟩

end Go.Proofs.Ytlmeponoadhheaa

/-
  Regions that draw their order and whose callees only lay blocks (Ch0): walked once, in the text's order. General, of no program. Use:
    refine wp_region_quiet_below (by kernel_rfl) (by kernel_rfl) ?_ ; repeat (quiet_step (tac)) ; refine wpQuiet_nil ?_ ; intro _ hw' ; obtain ⟨⟨dq, osq⟩, hw''⟩ := hw' ; subst hw''
  at a call: tac = 'exact quietB (contract)'; cells: facts by 'cellB'.
-/
namespace Go.Proofs.Ytlmeponoadhheaa
set_option linter.unusedVariables false
open Go.RowKit Go.Sort

theorem chB (w : World) (d : Nat) (os : Array Obj) : Ch0 w (grow (redrawn w d) os) :=
  let h := below_regrown w d os
  ⟨h.os, h.tape, h.output, h.size, fun k hk _ => h.block k hk⟩

theorem belowB {w w' : World} (h : Ch0 w w') : Below w.heap.size w w' := ⟨h.os, h.tape, h.output, h.size, fun k hk => h.block k hk (fun e => e)⟩

theorem quietB {P : Program} {f : FuncId} {args : Array Value} {w : World} {d : Nat} {os : Array Obj} {v : Value}
    (h : Calls P f args (grow (redrawn w d) os) fun e w' => e = .returned v ∧ Ch0 (grow (redrawn w d) os) w') : Calls P f args (grow (redrawn w d) os) fun e w'' => e = .returned v ∧ ∃ p : Regrown, w'' = grow (redrawn w p.d) p.os :=
  Calls.regrown_of (h.mono fun _ _ ⟨he, hc⟩ => ⟨he, belowB hc⟩)

theorem cellB {w : World} {a : Addr} {v : Value} (h : w.cell? a = some v) : ∀ (d : Nat) (os : Array Obj), (grow (redrawn w d) os).cell? a = some v := fun d os => cell_regrown h d os

end Go.Proofs.Ytlmeponoadhheaa
