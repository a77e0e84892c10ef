/-
  Contracts of (*queue.Set).Put and Poll, whole; a new set.
-/
import Derived.Test.YtlmccjmbidfflaaQ
namespace Go.Proofs.Ytlmccjmbidfflaa
set_option linter.unusedVariables false
open Go.RowKit

theorem Qs.keep {w w' : World} {b : Nat} {O S : Nat → Prop} {q : Nat → List Int} {L : List Int} (h : Qs w b O q L) (c : Ch S w w') (hn : ∀ k, O k → ¬ S k) : Qs w' b O q L := by
  obtain ⟨vs, m, h⟩ := h
  exact ⟨vs, m, h.keep c hn⟩

/-- a set that is new -/
theorem qs_new (w : World) : Qs (w.alloc (.cells #[.slice none 0 0, .slice none 0 0, .slice none 0 0, .slice none 0 0, .map none] 29)) w.heap.size (fun k => k = w.heap.size) (fun _ => []) [] := by
  refine ⟨fun _ => .slice none 0 0, .map none, ⟨heap_alloc_new w _, rfl, ?_, ?_, ?_, ?_, .inl ⟨rfl, rfl⟩, ?_⟩⟩
  · rintro k rfl; simp
  · intro i hi; exact RowAt.nil
  · intro i hi g hg; cases hg
  · intro i j _ _ _ g hg; cases hg
  · intro i hi x hx; cases hx

theorem put_out (b : Nat) (w : World) (k x : Int) (hk : ¬ (1 ≤ k ∧ k ≤ 4)) :
    Calls Try.prog 12 #[.pointer (some ⟨b, 0, none⟩), .int .i64 k, .int .i64 x] w fun e w' => e = .returned (.tuple #[.bool false, .int .i64 1]) ∧ SameW w w' := by
  have ht := there_any b k w
  rw [decide_eq_false hk] at ht
  clear hk
  go_enter Try.func12, Try.ntmps12
  go_wp2_with fail
  refine ht.mono ?_
  rintro e w1 ⟨rfl, hs⟩
  obtain rfl : w = w1 := hs
  go_wp2_with fail
  go_ret2
  exact ⟨rfl, SameW.rfl' _⟩

theorem poll_out (b : Nat) (w : World) (k : Int) (hk : ¬ (1 ≤ k ∧ k ≤ 4)) :
    Calls Try.prog 11 #[.pointer (some ⟨b, 0, none⟩), .int .i64 k] w fun e w' => e = .returned (.tuple #[.int .i64 0, .int .i64 1]) ∧ SameW w w' := by
  have ht := there_any b k w
  rw [decide_eq_false hk] at ht
  clear hk
  go_enter Try.func11, Try.ntmps11
  go_wp2_with fail
  refine ht.mono ?_
  rintro e w1 ⟨rfl, hs⟩
  obtain rfl : w = w1 := hs
  go_wp2_with fail
  go_ret2
  exact ⟨rfl, SameW.rfl' _⟩

/-- Put, where there is such a queue -/
theorem put_in {w : World} {b : Nat} {O : Nat → Prop} {q : Nat → List Int} {L : List Int} (h : Qs w b O q L) (i : Nat) (hi : i < 4) (k : Int) (hk : k = i + 1) (x : Int) (hlen : (q i).length < 4294967296) :
    Calls Try.prog 12 #[.pointer (some ⟨b, 0, none⟩), .int .i64 k, .int .i64 x] w fun e w' => e = .returned (.tuple #[.bool (decide (x ∉ L)), .int .i64 0]) ∧
      ∃ O', Qs w' b O' (if x ∈ L then q else updF q i (q i ++ [x])) (if x ∈ L then L else L ++ [x]) ∧ Turn w w' O O' := by
  by_cases hx : x ∈ L
  · obtain ⟨vs, m, h⟩ := h
    refine (put_old h i hi k hk x hx).mono ?_
    rintro e w' ⟨rfl, hs⟩
    obtain rfl : w = w' := hs
    refine ⟨by simp [hx], O, ?_, Turn.refl _ _⟩
    rw [if_pos hx, if_pos hx]
    exact ⟨vs, m, h⟩
  · rw [decide_eq_true hx, if_neg hx, if_neg hx]
    obtain ⟨vs, m, h⟩ := h
    rcases h.map with ⟨rfl, _⟩ | ⟨r, n, rfl, hr, hm⟩
    · exact put_first h i hi k hk x hlen
    · exact put_new h hm i hi k hk x hx hlen

theorem poll_none {w : World} {b : Nat} {O : Nat → Prop} {q : Nat → List Int} {L : List Int} {vs : Nat → Value} {m : Value} (h : QS w b O q L vs m) (i : Nat) (hi : i < 4) (k : Int) (hk : k = i + 1) (hq : q i = []) :
    Calls Try.prog 11 #[.pointer (some ⟨b, 0, none⟩), .int .i64 k] w fun e w' => e = .returned (.tuple #[.int .i64 0, .int .i64 10]) ∧ SameW w w' := by
  have ht := there_any b k w
  rw [decide_eq_true (show 1 ≤ k ∧ k ≤ 4 by omega)] at ht
  have hl := len_in h i hi k hk
  rw [hq] at hl
  simp only [List.length_nil] at hl
  clear hk h hq
  go_enter Try.func11, Try.ntmps11
  go_wp2_with fail
  refine ht.mono ?_
  rintro e w1 ⟨rfl, hs⟩
  obtain rfl : w = w1 := hs
  go_wp2_with fail
  refine hl.mono ?_
  rintro e w1 ⟨rfl, hs⟩
  obtain rfl : w = w1 := hs
  go_wp2_with fail
  go_ret2
  exact ⟨rfl, SameW.rfl' _⟩

set_option maxHeartbeats 1000000 in
theorem poll_some {w : World} {b : Nat} {O : Nat → Prop} {q : Nat → List Int} {L : List Int} {vs : Nat → Value} {m : Value} (h : QS w b O q L vs m) (i : Nat) (hi : i < 4) (k : Int) (hk : k = i + 1) (x : Int) (xs : List Int) (hq : q i = x :: xs) :
    Calls Try.prog 11 #[.pointer (some ⟨b, 0, none⟩), .int .i64 k] w fun e w' => e = .returned (.tuple #[.int .i64 x, .int .i64 0]) ∧ ∃ O', Qs w' b O' (updF q i xs) L ∧ Turn w w' O O' := by
  have ht := there_any b k w
  rw [decide_eq_true (show 1 ≤ k ∧ k ≤ 4 by omega)] at ht
  have hl := len_in h i hi k hk
  have hrow := h.row i hi
  rw [hq] at hl hrow
  simp only [List.length_cons, List.map_cons] at hl hrow
  have hn : (((xs.length + 1 : Nat) : Int) == 0) = false := beq_eq_false_iff_ne.2 (by omega)
  obtain ⟨g, o, c, ev, hc, hcm, hx, hrow', -⟩ := hrow.tail
  have ki := h.cell hi
  rw [ev] at ki
  have fi := frozen_of_row w b i _ _ h.blk
  have hbv := h.ne_row hi
  have hend : ∀ v', v' = Value.slice (if c = 1 then some ⟨g, o, none⟩ else some ⟨g, o + 1, none⟩) xs.length (c - 1) → ∃ O', Qs (w.setCell ⟨b, i, none⟩ v') b O' (updF q i xs) L ∧ Turn w (w.setCell ⟨b, i, none⟩ v') O O' := by
    rintro v' rfl
    refine ⟨_, h.turn hi (L' := L) (xs := xs) (Ch.refl _ _) hrow' (.inl ?_) ?_ (fun y hy => hy) (fun y hy => h.ever i hi y (by rw [hq]; simp [hy]))⟩
    · rw [ev]; split <;> rfl
    · rcases h.map with ⟨e1, e2⟩ | ⟨r, n, e1, e2, e3⟩
      · exact .inl ⟨e1, e2⟩
      · exact .inr ⟨r, n, e1, e3⟩
  have hsl : ∀ w, (Instr.slice 25 (.slice (some ⟨g, o, none⟩) (xs.length + 1) c) (some (.int .i64 1)) none none).run Try.prog w = .ok (.slice (if c = 1 then some ⟨g, o, none⟩ else some ⟨g, o + 1, none⟩) xs.length (c - 1)) w := by
    intro w
    obtain ⟨i0, hi0, hz0, hz1, hz2⟩ := info_parts Try.info3
    have e1 : ((1 : Int) ≤ ((xs.length + 1 : Nat) : Int)) := by omega
    simp [Instr.slice, Instr.sliceBounds, Instr.sliceBound, asIntOf, run_underlying Try.underlying25, sizeOf, typeInfo, hi0, hz1, Result.andThen, addr_add]
    rw [if_pos (show (1 : Int) ≤ (xs.length : Int) + 1 by omega)]
    simp
  obtain ⟨a', ha'⟩ : ∃ a' : Option Addr, a' = if c = 1 then some ⟨g, o, none⟩ else some ⟨g, o + 1, none⟩ := ⟨_, rfl⟩
  rw [← ha'] at hend
  simp only [← ha'] at hsl
  have hend2 : ∃ O', Qs (w.setCell ⟨b, i, none⟩ (.slice a' xs.length (c - 1))).drew b O' (updF q i xs) L ∧ Turn w (w.setCell ⟨b, i, none⟩ (.slice a' xs.length (c - 1))).drew O O' := by
    obtain ⟨O', e1, e2⟩ := hend _ rfl
    exact ⟨O', e1.keep ((Ch.refl (fun _ => False) _).drew) (fun _ _ q => q), e2.after ((Ch.refl _ _).drew)⟩
  have HE := Lib.hid hend2
  have hlx : xs.length ≤ 9223372036854775806 := by
    unfold maxLen at hcm; omega
  generalize xs.length = n at *
  have i1 : (0 : Int) ≤ (i : Int) := by omega
  have i2 : (i : Int) < 4 := by omega
  have i3 : IntKind.i64.wrap (k - 1) = (i : Int) := by
    rw [IntWalk.i64_in _ (by omega)]; omega
  have hcell : w.cell? ⟨g, o, none⟩ = some (.int .i64 x) := hx
  clear h hend hend2 hrow hrow' hq hk hx hbv ev ha'
  go_enter Try.func11, Try.ntmps11
  go_wp2_with fail
  refine ht.mono ?_
  rintro e w1 ⟨rfl, hs⟩
  obtain rfl : w = w1 := hs
  go_wp2_with fail
  refine hl.mono ?_
  rintro e w1 ⟨rfl, hs⟩
  obtain rfl : w = w1 := hs
  go_wp2_with fail
  clear ht hl hn hlx hcm hc
  go_region
  clear fi ki hsl i1 i2 i3 hcell
  go_wp2_with fail
  go_ret2
  exact ⟨rfl, HE.out⟩

/-- Poll, where there is such a queue -/
theorem poll_in {w : World} {b : Nat} {O : Nat → Prop} {q : Nat → List Int} {L : List Int} (h : Qs w b O q L) (i : Nat) (hi : i < 4) (k : Int) (hk : k = i + 1) :
    Calls Try.prog 11 #[.pointer (some ⟨b, 0, none⟩), .int .i64 k] w fun e w' => e = .returned (.tuple #[.int .i64 ((q i).headD 0), .int .i64 (if q i = [] then 10 else 0)]) ∧
      ∃ O', Qs w' b O' (updF q i (q i).tail) L ∧ Turn w w' O O' := by
  obtain ⟨vs, m, h⟩ := h
  cases hq : q i with
  | nil =>
    refine (poll_none h i hi k hk hq).mono ?_
    rintro e w' ⟨rfl, hs⟩
    obtain rfl : w = w' := hs
    refine ⟨rfl, O, ⟨vs, m, ?_⟩, Turn.refl _ _⟩
    have : updF q i [] = q := by
      funext j
      unfold updF
      split
      · rename_i e; rw [e, hq]
      · rfl
    show QS w b O (updF q i []) L vs m
    rw [this]; exact h
  | cons x xs =>
    refine (poll_some h i hi k hk x xs hq).mono ?_
    rintro e w' ⟨rfl, h⟩
    exact ⟨rfl, h⟩

end Go.Proofs.Ytlmccjmbidfflaa
