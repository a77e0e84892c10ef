/-
  A set of queues in memory; contracts of (*queue.Set).there, Len, Poll, Put.
-/
import Derived.Test.YtlmccjmbidfflaaRowsIn
import Derived.Test.YtlmccjmbidfflaaMap
import Derived.Deep.QuietTactic
import Derived.BigQuiet
import Derived.Deep.RegionLaw
namespace Go.Proofs.Ytlmccjmbidfflaa
set_option linter.unusedVariables false
open Go.RowKit

abbrev isOf (L : List Int) : Int → Option Value := fun k => if k ∈ L then some (.bool true) else none

theorem isOf_get (L : List Int) (x : Int) : ((isOf L x).getD (.bool false)) = .bool (decide (x ∈ L)) := by
  unfold isOf; split <;> simp_all

/-- A set of queues in block b: its queues are q 0 .. q 3; what was ever put in is L; O: the blocks that are its own. -/
structure QS (w : World) (b : Nat) (O : Nat → Prop) (q : Nat → List Int) (L : List Int) (vs : Nat → Value) (m : Value) : Prop where
  blk : w.heap[b]? = some (.cells #[vs 0, vs 1, vs 2, vs 3, m] 29 (0, 0))
  own : O b
  small : ∀ k, O k → k < w.heap.size
  row : ∀ i, i < 4 → RowAt w 3 1 (vs i) (q i).length ((q i).map (Value.int .i64))
  rowO : ∀ i, i < 4 → ∀ g, rblk (vs i) = some g → O g
  apart : ∀ i j, i < 4 → j < 4 → i ≠ j → ∀ g, rblk (vs i) = some g → rblk (vs j) ≠ some g
  map : (m = .map none ∧ L = []) ∨ ∃ r n, m = .map (some r) ∧ O r ∧ IM w r n (isOf L)
  ever : ∀ i, i < 4 → ∀ x ∈ q i, x ∈ L

theorem len_lt (w : World) (b : Nat) (O : Nat → Prop) (q : Nat → List Int) (L : List Int) (vs : Nat → Value) (m : Value) (h : QS w b O q L vs m) (i : Nat) (hi : i < 4) : (q i).length ≤ 9223372036854775807 := by
  obtain ⟨a, c, _, h1, h2⟩ := (h.row i hi).isSlice
  unfold maxLen at h2; omega

set_option maxHeartbeats 400000 in
theorem there_any (b : Nat) (k : Int) (w : World) :
    Calls Try.prog 30 #[.pointer (some ⟨b, 0, none⟩), .int .i64 k] w fun e w' => e = .returned (.bool (decide (1 ≤ k ∧ k ≤ 4))) ∧ SameW w w' := by
  obtain ⟨d, hd⟩ : ∃ d, d = decide (1 ≤ k ∧ k ≤ 4) := ⟨_, rfl⟩
  rw [← hd]
  by_cases h1 : 1 ≤ k
  · have g1 : decide (1 ≤ k) = true := decide_eq_true h1
    by_cases h2 : k ≤ 4
    · have g2 : decide (k ≤ 4) = true := decide_eq_true h2
      obtain rfl : d = true := by rw [hd]; exact decide_eq_true ⟨h1, h2⟩
      clear hd
      go_enter Try.func30, Try.ntmps30
      go_wp2
      go_ret
      exact ⟨rfl, SameW.rfl' _⟩
    · have g2 : decide (k ≤ 4) = false := decide_eq_false h2
      obtain rfl : d = false := by rw [hd]; exact decide_eq_false (fun q => h2 q.2)
      clear hd
      go_enter Try.func30, Try.ntmps30
      go_wp2
      go_ret
      exact ⟨rfl, SameW.rfl' _⟩
  · have g1 : decide (1 ≤ k) = false := decide_eq_false h1
    obtain rfl : d = false := by rw [hd]; exact decide_eq_false (fun q => h1 q.1)
    clear hd
    go_enter Try.func30, Try.ntmps30
    go_wp2
    go_ret
    exact ⟨rfl, SameW.rfl' _⟩

theorem there_nil (k : Int) (w : World) :
    Calls Try.prog 30 #[.pointer none, .int .i64 k] w fun e w' => e = .returned (.bool false) ∧ SameW w w' := by
  go_enter Try.func30, Try.ntmps30
  go_wp2
  go_ret
  exact ⟨rfl, SameW.rfl' _⟩

theorem four {i : Nat} (h : i < 4) : i = 0 ∨ i = 1 ∨ i = 2 ∨ i = 3 := by omega

theorem QS.cells {w : World} {b : Nat} {O : Nat → Prop} {q : Nat → List Int} {L : List Int} {vs : Nat → Value} {m : Value} (h : QS w b O q L vs m) :
    (w.cell? ⟨b, 0, none⟩ = some (vs 0) ∧ w.cell? ⟨b, 1, none⟩ = some (vs 1) ∧ w.cell? ⟨b, 2, none⟩ = some (vs 2) ∧ w.cell? ⟨b, 3, none⟩ = some (vs 3)) ∧ w.cell? ⟨b, 4, none⟩ = some m :=
  ⟨⟨cell_of_row w b _ _ _ _ h.blk, cell_of_row w b _ _ _ _ h.blk, cell_of_row w b _ _ _ _ h.blk, cell_of_row w b _ _ _ _ h.blk⟩, cell_of_row w b _ _ _ _ h.blk⟩

theorem QS.cell {w : World} {b : Nat} {O : Nat → Prop} {q : Nat → List Int} {L : List Int} {vs : Nat → Value} {m : Value} (h : QS w b O q L vs m) {i : Nat} (hi : i < 4) :
    w.cell? ⟨b, i, none⟩ = some (vs i) := by
  obtain ⟨⟨h0, h1, h2, h3⟩, -⟩ := h.cells
  rcases four hi with rfl | rfl | rfl | rfl
  · exact h0
  · exact h1
  · exact h2
  · exact h3

/-- Len of a queue that is there -/
theorem len_in {w : World} {b : Nat} {O : Nat → Prop} {q : Nat → List Int} {L : List Int} {vs : Nat → Value} {m : Value} (h : QS w b O q L vs m) (i : Nat) (hi : i < 4) (k : Int) (hk : k = i + 1) :
    Calls Try.prog 14 #[.pointer (some ⟨b, 0, none⟩), .int .i64 k] w fun e w' => e = .returned (.int .i64 ((q i).length : Int)) ∧ SameW w w' := by
  obtain ⟨a, c, e0, -, -⟩ := (h.row i hi).isSlice
  have k0 := h.cell hi
  rw [e0] at k0
  have ht := there_any b k w
  rw [decide_eq_true (show 1 ≤ k ∧ k ≤ 4 by omega)] at ht
  generalize (q i).length = n at k0 ⊢
  clear h e0
  rcases four hi with rfl | rfl | rfl | rfl
  all_goals
    simp at hk
    subst hk
    go_enter Try.func14, Try.ntmps14
    go_wp2_with fail
    refine ht.mono ?_
    rintro e w1 ⟨rfl, hs⟩
    obtain rfl : w = w1 := hs
    go_wp2_with fail
    go_ret
    exact ⟨rfl, SameW.rfl' _⟩

/-- Len of a queue that is not there -/
theorem len_out (b : Nat) (w : World) (k : Int) (hk : ¬ (1 ≤ k ∧ k ≤ 4)) :
    Calls Try.prog 14 #[.pointer (some ⟨b, 0, none⟩), .int .i64 k] w fun e w' => e = .returned (.int .i64 0) ∧ SameW w w' := by
  have ht := there_any b k w
  rw [decide_eq_false hk] at ht
  go_enter Try.func14, Try.ntmps14
  go_wp2_with fail
  refine ht.mono ?_
  rintro e w1 ⟨rfl, hs⟩
  obtain rfl : w = w1 := hs
  go_wp2_with fail
  go_ret
  exact ⟨rfl, SameW.rfl' _⟩

/-- a set of queues, its values not told -/
def Qs (w : World) (b : Nat) (O : Nat → Prop) (q : Nat → List Int) (L : List Int) : Prop := ∃ vs m, QS w b O q L vs m

/-- of another set nothing is turned -/
theorem QS.keep {w w' : World} {b : Nat} {O S : Nat → Prop} {q : Nat → List Int} {L : List Int} {vs : Nat → Value} {m : Value} (h : QS w b O q L vs m) (c : Ch S w w') (hn : ∀ k, O k → ¬ S k) : QS w' b O q L vs m where
  blk := c.keep h.blk (hn b h.own)
  own := h.own
  small := fun k hk => Nat.lt_of_lt_of_le (h.small k hk) c.size
  row := fun i hi => (h.row i hi).keep c (fun k hk => hn k (h.rowO i hi k hk))
  rowO := h.rowO
  apart := h.apart
  map := h.map.imp id (fun ⟨r, n, e, hr, hm⟩ => ⟨r, n, e, hr, hm.keep c (hn r hr)⟩)
  ever := h.ever

theorem QS.ne_row {w : World} {b : Nat} {O : Nat → Prop} {q : Nat → List Int} {L : List Int} {vs : Nat → Value} {m : Value} (h : QS w b O q L vs m) {i : Nat} (hi : i < 4) : rblk (vs i) ≠ some b := fun e => by
  obtain ⟨cur, hc⟩ := (h.row i hi).block e
  rw [h.blk] at hc; cases hc

theorem QS.ne_map {w : World} {b : Nat} {O : Nat → Prop} {q : Nat → List Int} {L : List Int} {vs : Nat → Value} {m : Value} (h : QS w b O q L vs m) {r n : Nat} {f : Int → Option Value} (hm : IM w r n f) : b ≠ r := fun e => by
  obtain ⟨es, clock, he, _⟩ := hm
  rw [← e, h.blk] at he; cases he

theorem QS.ne_row_map {w : World} {b : Nat} {O : Nat → Prop} {q : Nat → List Int} {L : List Int} {vs : Nat → Value} {m : Value} (h : QS w b O q L vs m) {r n : Nat} {f : Int → Option Value} (hm : IM w r n f) {i : Nat} (hi : i < 4) : rblk (vs i) ≠ some r := fun e => by
  obtain ⟨es, clock, he, _⟩ := hm
  obtain ⟨cur, hc⟩ := (h.row i hi).block e
  rw [he] at hc; cases hc

/-- one queue, and maybe what was ever put in, are other; the map stays where it was -/
theorem QS.turn {w w4 : World} {b : Nat} {O : Nat → Prop} {q : Nat → List Int} {L L' : List Int} {vs : Nat → Value} {m : Value} (h : QS w b O q L vs m) {i : Nat} (hi : i < 4) {v' : Value} {xs : List Int}
    (c : Ch (fun k => m = .map (some k) ∨ rblk (vs i) = some k) w w4) (hrow : RowAt w4 3 1 v' xs.length (xs.map (Value.int .i64))) (hv : rblk v' = rblk (vs i) ∨ ∃ g, rblk v' = some g ∧ w.heap.size ≤ g)
    (hmap : (m = .map none ∧ L' = []) ∨ ∃ r n, m = .map (some r) ∧ IM w4 r n (isOf L')) (hL : ∀ x ∈ L, x ∈ L') (hx : ∀ x ∈ xs, x ∈ L') :
    Qs (w4.setCell ⟨b, i, none⟩ v') b (fun k => O k ∨ rblk v' = some k) (updF q i xs) L' ∧ Turn w (w4.setCell ⟨b, i, none⟩ v') O (fun k => O k ∨ rblk v' = some k) := by
  have hmb : m ≠ .map (some b) := by
    intro e
    rcases h.map with ⟨e1, _⟩ | ⟨r, n, e1, _, hm⟩
    · rw [e] at e1; cases e1
    · rw [e] at e1; cases e1; exact h.ne_map hm rfl
  have hnb : ¬ (m = .map (some b) ∨ rblk (vs i) = some b) := fun e => e.elim hmb (h.ne_row hi)
  have hblk4 := c.keep h.blk hnb
  have hsz := c.size
  have hbv : rblk v' ≠ some b := by
    intro e
    obtain ⟨cur, hc⟩ := hrow.block e
    rw [hblk4] at hc; cases hc
  have cset : Ch (fun k => k = b) w4 (w4.setCell ⟨b, i, none⟩ v') := Ch.setCell (S := fun k => k = b) (Ch.refl _ _) (p := ⟨b, i, none⟩) (fun _ => rfl) _
  refine ⟨⟨updF vs i v', m, ?_, .inl h.own, ?_, ?_, ?_, ?_, ?_, ?_⟩, ?_, ?_⟩
  · rw [heap_setCell_same w4 b i _ _ _ hblk4]
    rcases four hi with rfl | rfl | rfl | rfl <;> rfl
  · rintro k (hk | hk)
    · have := h.small k hk
      simp [World.setCell]; omega
    · have := hrow.lt hk
      simpa [World.setCell] using this
  · intro j hj
    by_cases hji : j = i
    · subst hji
      rw [updF_same, updF_same]
      exact hrow.keep cset (fun k hk e => hbv (e ▸ hk))
    · rw [updF_other _ _ _ hji, updF_other _ _ _ hji]
      refine ((h.row j hj).keep c ?_).keep cset (fun k hk e => h.ne_row hj (e ▸ hk))
      rintro k hk (e | e)
      · rcases h.map with ⟨e1, _⟩ | ⟨r, n, e1, _, hm⟩
        · rw [e] at e1; cases e1
        · rw [e] at e1; cases e1; exact h.ne_row_map hm hj hk
      · exact h.apart j i hj hi hji k hk e
  · intro j hj g hg
    by_cases hji : j = i
    · subst hji; rw [updF_same] at hg; exact .inr hg
    · rw [updF_other _ _ _ hji] at hg; exact .inl (h.rowO j hj g hg)
  · have key : ∀ j, j < 4 → j ≠ i → ∀ g, rblk (vs j) = some g → rblk v' ≠ some g := by
      intro j hj hji g hg e
      rcases hv with e1 | ⟨g', e1, hge⟩
      · rw [e1] at e; exact h.apart j i hj hi hji g hg e
      · rw [e1] at e; cases e
        have := (h.row j hj).lt hg
        omega
    intro j1 j2 h1 h2 hne g hg
    by_cases hj1 : j1 = i
    · subst hj1
      rw [updF_same] at hg
      rw [updF_other _ _ _ (Ne.symm hne)]
      intro e
      exact key j2 h2 (Ne.symm hne) g e hg
    · rw [updF_other _ _ _ hj1] at hg
      by_cases hj2 : j2 = i
      · subst hj2
        rw [updF_same]
        exact key j1 h1 hj1 g hg
      · rw [updF_other _ _ _ hj2]
        exact h.apart j1 j2 h1 h2 hne g hg
  · rcases hmap with ⟨e1, e2⟩ | ⟨r, n, e1, hm⟩
    · exact .inl ⟨e1, e2⟩
    · refine .inr ⟨r, n, e1, ?_, hm.keep cset ?_⟩
      · rcases h.map with ⟨e2, _⟩ | ⟨r', n', e2, hr', _⟩
        · rw [e1] at e2; cases e2
        · rw [e1] at e2; cases e2; exact .inl hr'
      · rintro rfl; exact hmb e1
  · intro j hj x hxj
    by_cases hji : j = i
    · subst hji; rw [updF_same] at hxj; exact hx x hxj
    · rw [updF_other _ _ _ hji] at hxj; exact hL x (h.ever j hj x hxj)
  · refine c.trans' cset ?_ ?_
    · rintro k _ (e | e)
      · rcases h.map with ⟨e2, _⟩ | ⟨r', n', e2, hr', _⟩
        · rw [e] at e2; cases e2
        · rw [e] at e2; cases e2; exact hr'
      · exact h.rowO i hi k e
    · rintro k _ rfl; exact h.own
  · rintro k (hk | hk)
    · exact .inl hk
    · rcases hv with e1 | ⟨g', e1, hge⟩
      · rw [e1] at hk; exact .inl (h.rowO i hi k hk)
      · rw [e1] at hk; cases hk; exact .inr hge

theorem zeroBool (w : World) : (zeroValue 4).run Try.prog w = .ok (.bool false) w := by
  have h : ∃ i, Try.prog.info? 4 = some i ∧ i.zero = some (.bool false) := by
    have e : (Try.prog.info? 4).map (fun i => i.zero) = some (some (.bool false)) := by kernel_rfl
    rw [Option.map_eq_some_iff] at e
    exact e
  obtain ⟨i, h1, h2⟩ := h
  simp [zeroValue, typeInfo, h1, h2, Result.andThen]

set_option maxHeartbeats 400000 in
/-- Put of something that was in one ever -/
theorem put_old {w : World} {b : Nat} {O : Nat → Prop} {q : Nat → List Int} {L : List Int} {vs : Nat → Value} {m : Value} (h : QS w b O q L vs m) (i : Nat) (hi : i < 4) (k : Int) (hk : k = i + 1) (x : Int) (hx : x ∈ L) :
    Calls Try.prog 12 #[.pointer (some ⟨b, 0, none⟩), .int .i64 k, .int .i64 x] w fun e w' => e = .returned (.tuple #[.bool false, .int .i64 0]) ∧ SameW w w' := by
  have ht := there_any b k w
  rw [decide_eq_true (show 1 ≤ k ∧ k ≤ 4 by omega)] at ht
  obtain ⟨-, k4⟩ := h.cells
  rcases h.map with ⟨-, rfl⟩ | ⟨r, n, rfl, -, hm⟩
  · simp at hx
  have hl := hm.lookup (P := Try.prog) (t := 27) (z := .bool false) Try.underlying27 Try.underlying3 (zeroBool w) x false
  rw [isOf_get, decide_eq_true hx] at hl
  simp only [Bool.false_eq_true, if_false] at hl
  clear h hm hk hx
  go_enter Try.func12, Try.ntmps12
  go_wp2_with fail
  refine ht.mono ?_
  rintro e w1 ⟨rfl, hs⟩
  obtain rfl : w = w1 := hs
  go_wp2_with (at_lookup; refine wpList_lookup_run rfl _ _ 27 rfl rfl rfl hl ?_)
  go_wp2_with fail
  go_ret2
  exact ⟨rfl, SameW.rfl' _⟩

theorem isOf_put (L : List Int) (x : Int) : iput (isOf L) x (.bool true) = isOf (L ++ [x]) := by
  funext k
  unfold iput isOf
  by_cases h : k = x <;> simp [h]

set_option maxHeartbeats 1000000 in
/-- Put of something new, where something was put in before -/
theorem put_new {w : World} {b : Nat} {O : Nat → Prop} {q : Nat → List Int} {L : List Int} {vs : Nat → Value} {r n0 : Nat} (h : QS w b O q L vs (.map (some r))) (hm : IM w r n0 (isOf L)) (i : Nat) (hi : i < 4) (k : Int) (hk : k = i + 1) (x : Int) (hx : x ∉ L)
    (hlen : (q i).length < 4294967296) :
    Calls Try.prog 12 #[.pointer (some ⟨b, 0, none⟩), .int .i64 k, .int .i64 x] w fun e w' => e = .returned (.tuple #[.bool true, .int .i64 0]) ∧ ∃ O', Qs w' b O' (updF q i (q i ++ [x])) (L ++ [x]) ∧ Turn w w' O O' := by
  have ht := there_any b k w
  rw [decide_eq_true (show 1 ≤ k ∧ k ≤ 4 by omega)] at ht
  obtain ⟨-, k4⟩ := h.cells
  have ki := h.cell hi
  have hl := hm.lookup (P := Try.prog) (t := 27) (z := .bool false) Try.underlying27 Try.underlying3 (zeroBool w) x false
  rw [isOf_get, decide_eq_false hx] at hl
  simp only [Bool.false_eq_true, if_false] at hl
  obtain ⟨w1, hup, hm1, c1, s1⟩ := hm.update (P := Try.prog) (t := 27) Try.underlying27 Try.underlying3 x (.bool true)
  rw [isOf_put] at hm1
  have hb : b ≠ r := h.ne_map hm
  have ki1 := c1.cell ki hb
  have k41 := c1.cell k4 hb
  have hbv := h.ne_row hi
  have HB := Lib.hid (c1.keep h.blk hb)
  have hrow1 := (h.row i hi).keep c1 (fun g hg e => h.ne_row_map hm hi (e ▸ hg))
  have hxs : ∀ y ∈ q i ++ [x], y ∈ L ++ [x] := by
    intro y hy
    rcases List.mem_append.1 hy with hy | hy
    · exact List.mem_append_left _ (h.ever i hi y hy)
    · exact List.mem_append_right _ hy
  have hend : ∀ (wx w4 : World) (v' : Value), Ch0 w1 wx → Ch (fun k => rblk (vs i) = some k) wx w4 → (rblk v' = rblk (vs i) ∨ rblk v' = some wx.heap.size) → RowAt w4 3 1 v' ((q i).length + 1) ((q i ++ [x]).map (Value.int .i64)) →
      ∃ O', Qs (w4.setCell ⟨b, i, none⟩ v') b O' (updF q i (q i ++ [x])) (L ++ [x]) ∧ Turn w (w4.setCell ⟨b, i, none⟩ v') O O' := by
    intro wx w4 v' c5 c4 b4 r4
    refine ⟨_, h.turn hi (L' := L ++ [x]) (xs := q i ++ [x]) ((c1.trans' c5 (fun _ _ e => .inl (by rw [e])) (fun _ _ e => e.elim)).trans' c4 (fun _ _ e => e) (fun _ _ e => .inr e)) (by simpa using r4) (b4.imp id (fun e => ⟨_, e, by have := c1.size; have := c5.size; omega⟩)) (.inr ⟨r, _, rfl, (hm1.keep c5 (fun e => e)).keep c4 (h.ne_row_map hm hi)⟩) (fun y hy => List.mem_append_left _ hy) hxs⟩
  obtain ⟨a, c, ev, -, -⟩ := (h.row i hi).isSlice
  generalize (q i).length = n at hlen hrow1 ev hend
  have HE := Lib.hid hend
  have HR := Lib.hid hrow1
  rw [ev] at ki ki1
  have hq : ∀ w, (binOp .eql 27 (.map (some r)) (.map none)).run Try.prog w = .ok (.bool false) w := fun w => by
    rw [run_eql_map_nil w _ _ _ _ Try.underlying27]; rfl
  have i1 : (0 : Int) ≤ (i : Int) := by omega
  have i2 : (i : Int) < 4 := by omega
  have i3 : IntKind.i64.wrap (k - 1) = (i : Int) := by
    rw [IntWalk.i64_in _ (by omega)]; omega
  have hnew : (w1.alloc (.cells #[.int .i64 x] 3)).cell? ⟨b, i, none⟩ = some (.slice a n c) := ((Ch.refl (fun _ => False) w1).alloc _).cell ki1 (fun q => q)
  clear h hm hm1 hend hrow1 c1 s1 hx hk
  go_enter Try.func12, Try.ntmps12
  go_wp2_with fail
  refine ht.mono ?_
  rintro e w2 ⟨rfl, hs⟩
  obtain rfl : w = w2 := hs
  go_wp2_with (at_lookup; refine wpList_lookup_run rfl _ _ 27 rfl rfl rfl hl ?_)
  go_wp2_with (at_mapUpdate; refine wpList_mapUpdate_run rfl _ _ _ 27 rfl rfl rfl rfl hup ?_)
  go_wp2_with fail
  clear ki k4 k41 hq hl hup ht
  go_region_law
    (((refine step_int HR.out ev hlen _ _ (by rfl) _ _ (by rfl) (by rfl) (by rfl) (by exact heap_alloc_new w1 _) (by exact ((Ch.refl _ w1).alloc _).drew) ?_; intro a' c' w4 r4 c4 b4 c5; have f4 := frozen_of_row w4 b i _ _ (c4.keep (c5.keep HB.out (fun q => q)) hbv); have q4 := c4.cell (c5.cell ki1 (fun q => q)) hbv)))
  all_goals
    have HF := Lib.hid (HE.out _ _ _ c5 c4 b4 r4)
    clear c4 c5 b4 r4 f4 q4 hnew HR HE HB i1 i2 i3
    go_wp2_with fail
    go_ret2
    exact ⟨rfl, HF.out⟩

/-- a map for what is put in, where there is none -/
theorem QS.mapped {w : World} {b : Nat} {O : Nat → Prop} {q : Nat → List Int} {L : List Int} {vs : Nat → Value} (h : QS w b O q L vs (.map none)) :
    QS ((w.alloc (.map #[] 0)).setCell ⟨b, 4, none⟩ (.map (some w.heap.size))) b (fun k => O k ∨ k = w.heap.size) q L vs (.map (some w.heap.size)) ∧
      IM ((w.alloc (.map #[] 0)).setCell ⟨b, 4, none⟩ (.map (some w.heap.size))) w.heap.size 0 (isOf L) ∧
      Turn w ((w.alloc (.map #[] 0)).setCell ⟨b, 4, none⟩ (.map (some w.heap.size))) O (fun k => O k ∨ k = w.heap.size) := by
  have hL : L = [] := by
    rcases h.map with ⟨_, e⟩ | ⟨r, n, e, _⟩
    · exact e
    · cases e
  subst hL
  have hb := h.small b h.own
  have ca : Ch0 w (w.alloc (.map #[] 0)) := (Ch.refl _ _).alloc _
  have cs : Ch (fun k => k = b) (w.alloc (.map #[] 0)) ((w.alloc (.map #[] 0)).setCell ⟨b, 4, none⟩ (.map (some w.heap.size))) := Ch.setCell (S := fun k => k = b) (Ch.refl _ _) (p := ⟨b, 4, none⟩) (fun _ => rfl) _
  have him : IM ((w.alloc (.map #[] 0)).setCell ⟨b, 4, none⟩ (.map (some w.heap.size))) w.heap.size 0 (isOf []) :=
    ((IM.made w).keep cs (by omega)).congr (fun k => by simp [isOf]) rfl
  refine ⟨⟨?_, .inl h.own, ?_, ?_, ?_, h.apart, .inr ⟨_, 0, rfl, .inr rfl, him⟩, h.ever⟩, him, ca.trans' cs (fun _ _ e => e.elim) (fun k _ e => by rw [e]; exact h.own), ?_⟩
  · rw [heap_setCell_same _ b 4 _ _ _ (ca.keep h.blk (fun e => e))]
    rfl
  · rintro k (hk | rfl)
    · have := h.small k hk
      simp [World.setCell]; omega
    · simp [World.setCell]
  · intro i hi
    exact ((h.row i hi).keep ca (fun _ _ e => e)).keep cs (fun k hk e => h.ne_row hi (e ▸ hk))
  · intro i hi g hg
    exact .inl (h.rowO i hi g hg)
  · rintro k (hk | rfl)
    · exact .inl hk
    · exact .inr (Nat.le_refl _)

set_option maxHeartbeats 1000000 in
/-- Put of something new, where nothing was put in before -/
theorem put_first {w : World} {b : Nat} {O : Nat → Prop} {q : Nat → List Int} {L : List Int} {vs : Nat → Value}  (h0 : QS w b O q L vs (.map none)) (i : Nat) (hi : i < 4) (k : Int) (hk : k = i + 1) (x : Int) 
    (hlen : (q i).length < 4294967296) :
    Calls Try.prog 12 #[.pointer (some ⟨b, 0, none⟩), .int .i64 k, .int .i64 x] w fun e w' => e = .returned (.tuple #[.bool true, .int .i64 0]) ∧ ∃ O', Qs w' b O' (updF q i (q i ++ [x])) (L ++ [x]) ∧ Turn w w' O O' := by
  have ht := there_any b k w
  rw [decide_eq_true (show 1 ≤ k ∧ k ≤ 4 by omega)] at ht
  obtain ⟨-, k4⟩ := h0.cells
  obtain ⟨h, hm, T0⟩ := h0.mapped
  have hx : x ∉ L := by
    rcases h0.map with ⟨_, e⟩ | ⟨r, n, e, _⟩
    · rw [e]; simp
    · cases e
  have ki := h.cell hi
  have k40 := h.cells.2
  have f40 := frozen_of_row (w.alloc (.map #[] 0)) b 4 _ _ (((Ch.refl (fun _ => False) w).alloc _).keep h0.blk (fun q => q))
  have hl := lookup_nil (P := Try.prog) (t := 27) (z := .bool false) Try.underlying27 Try.underlying3 (zeroBool w) x false
  simp only [Bool.false_eq_true, if_false] at hl
  obtain ⟨w1, hup, hm1, c1, s1⟩ := hm.update (P := Try.prog) (t := 27) Try.underlying27 Try.underlying3 x (.bool true)
  rw [isOf_put] at hm1
  have hb : b ≠ w.heap.size := h.ne_map hm
  have ki1 := c1.cell ki hb
  have k41 := c1.cell k40 hb
  have hbv := h.ne_row hi
  have HB := Lib.hid (c1.keep h.blk hb)
  have hrow1 := (h.row i hi).keep c1 (fun g hg e => h.ne_row_map hm hi (e ▸ hg))
  have hxs : ∀ y ∈ q i ++ [x], y ∈ L ++ [x] := by
    intro y hy
    rcases List.mem_append.1 hy with hy | hy
    · exact List.mem_append_left _ (h.ever i hi y hy)
    · exact List.mem_append_right _ hy
  have hend : ∀ (wx w4 : World) (v' : Value), Ch0 w1 wx → Ch (fun k => rblk (vs i) = some k) wx w4 → (rblk v' = rblk (vs i) ∨ rblk v' = some wx.heap.size) → RowAt w4 3 1 v' ((q i).length + 1) ((q i ++ [x]).map (Value.int .i64)) →
      ∃ O', Qs (w4.setCell ⟨b, i, none⟩ v') b O' (updF q i (q i ++ [x])) (L ++ [x]) ∧ Turn w (w4.setCell ⟨b, i, none⟩ v') O O' := by
    intro wx w4 v' c5 c4 b4 r4
    obtain ⟨e1, e2⟩ := h.turn hi (L' := L ++ [x]) (xs := q i ++ [x]) ((c1.trans' c5 (fun _ _ e => .inl (by rw [e])) (fun _ _ e => e.elim)).trans' c4 (fun _ _ e => e) (fun _ _ e => .inr e)) (by simpa using r4) (b4.imp id (fun e => ⟨_, e, by have := c1.size; have := c5.size; omega⟩)) (.inr ⟨_, _, rfl, (hm1.keep c5 (fun e => e)).keep c4 (h.ne_row_map hm hi)⟩) (fun y hy => List.mem_append_left _ hy) hxs
    exact ⟨_, e1, T0.trans e2⟩
  obtain ⟨a, c, ev, -, -⟩ := (h.row i hi).isSlice
  generalize (q i).length = n at hlen hrow1 ev hend
  have HE := Lib.hid hend
  have HR := Lib.hid hrow1
  rw [ev] at ki ki1
  have hq : ∀ w, (binOp .eql 27 (.map none) (.map none)).run Try.prog w = .ok (.bool true) w := fun w => by
    rw [run_eql_map_nil w _ _ _ _ Try.underlying27]; rfl
  have kA : (w.alloc (.map #[] 0)).cell? ⟨b, 4, none⟩ = some (.map none) := ((Ch.refl (fun _ => False) w).alloc _).cell k4 (fun q => q)
  have hmk : (Instr.makeMap 27 none).run Try.prog w = .ok (.map (some w.heap.size)) (w.alloc (.map #[] 0)) := by simp [Instr.makeMap, Result.andThen]
  have i1 : (0 : Int) ≤ (i : Int) := by omega
  have i2 : (i : Int) < 4 := by omega
  have i3 : IntKind.i64.wrap (k - 1) = (i : Int) := by
    rw [IntWalk.i64_in _ (by omega)]; omega
  have hnew : (w1.alloc (.cells #[.int .i64 x] 3)).cell? ⟨b, i, none⟩ = some (.slice a n c) := ((Ch.refl (fun _ => False) w1).alloc _).cell ki1 (fun q => q)
  clear h hm hm1 hend hrow1 c1 s1 hx hk h0 T0
  go_enter Try.func12, Try.ntmps12
  go_wp2_with fail
  refine ht.mono ?_
  rintro e w2 ⟨rfl, hs⟩
  obtain rfl : w = w2 := hs
  go_wp2_with (at_lookup; refine wpList_lookup_run rfl _ _ 27 rfl rfl rfl hl ?_)
  go_wp2_with (at_mapUpdate; refine wpList_mapUpdate_run rfl _ _ _ 27 rfl rfl rfl rfl hup ?_)
  go_wp2_with fail
  clear ki k4 k41 hq hl hup ht k40 f40 hmk kA
  go_region_law
    (((refine step_int HR.out ev hlen _ _ (by rfl) _ _ (by rfl) (by rfl) (by rfl) (by exact heap_alloc_new w1 _) (by exact ((Ch.refl _ w1).alloc _).drew) ?_; intro a' c' w4 r4 c4 b4 c5; have f4 := frozen_of_row w4 b i _ _ (c4.keep (c5.keep HB.out (fun q => q)) hbv); have q4 := c4.cell (c5.cell ki1 (fun q => q)) hbv)))
  all_goals
    have HF := Lib.hid (HE.out _ _ _ c5 c4 b4 r4)
    clear c4 c5 b4 r4 f4 q4 hnew HR HE HB i1 i2 i3
    go_wp2_with fail
    go_ret2
    exact ⟨rfl, HF.out⟩

end Go.Proofs.Ytlmccjmbidfflaa
