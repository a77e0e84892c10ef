/-
  gleaninglaw12.QueueMany answers true: the walk.
-/
import Derived.Test.YtlmccjmbidfflaaAwake12
import Derived.Test.YtlmccjmbidfflaaConcat12
namespace Go.Proofs.Ytlmccjmbidfflaa
set_option linter.unusedVariables false
open Go.RowKit

/-- 1, 4, 7, .. -/
def ramp (j : Nat) : List Int := (List.range j).map (fun i : Nat => 3 * (i : Int) + 1)

theorem ramp_succ (j : Nat) : ramp (j + 1) = ramp j ++ [3 * (j : Int) + 1] := by simp [ramp, List.range_succ]
theorem ramp_length (j : Nat) : (ramp j).length = j := by simp [ramp]
theorem ramp_not (j : Nat) : 3 * (j : Int) + 1 ∉ ramp j := by
  intro h
  obtain ⟨i, hi, e⟩ := List.mem_map.1 h
  have := List.mem_range.1 hi
  omega
theorem ramp_mem {j n : Nat} (h : j < n) : 3 * (j : Int) + 1 ∈ ramp n := List.mem_map.2 ⟨j, List.mem_range.2 h, rfl⟩
theorem ramp_drop {j n : Nat} (h : j < n) : (ramp n).drop j = (3 * (j : Int) + 1) :: (ramp n).drop (j + 1) := by
  rw [List.drop_eq_getElem_cons (by rw [ramp_length]; exact h)]
  simp [ramp]

theorem updF_updF {α : Type} (q : Nat → α) (i : Nat) (x y : α) : updF (updF q i x) i y = updF q i y := by
  funext j; unfold updF; split <;> rfl

/-- one queue, and no other -/
def lone (m : Nat) (xs : List Int) : Nat → List Int := updF (fun _ => []) m xs
theorem lone_same (m : Nat) (xs : List Int) : lone m xs m = xs := updF_same _ _ _
theorem lone_upd (m : Nat) (xs ys : List Int) : updF (lone m xs) m ys = lone m ys := updF_updF _ _ _ _
theorem lone_nil (m : Nat) : lone m [] = fun _ => [] := by funext j; unfold lone updF; split <;> rfl
theorem lone_len (m : Nat) (xs : List Int) (k : Nat) : (lone m xs k).length ≤ xs.length := by
  unfold lone updF; split <;> simp
theorem cat_nil (n : Nat) : cat (fun _ => []) n = [] := by simp [cat]

set_option maxRecDepth 100000 in
set_option maxHeartbeats 4000000 in
theorem many_walk (n q0 : Nat) (hn : n ≤ 255) (hq0 : q0 ≤ 255) (w : World) :
    Calls Try.prog 5 #[.int .u8 (n : Int), .int .u8 (q0 : Int)] w fun e w' => e = .returned (.bool true) ∧ Ch0 w w' := by
  have HA := Lib.hid awake12
  obtain ⟨m, hm4, hm⟩ : ∃ m : Nat, m < 4 ∧ ((q0 : Int)).tmod 4 = (m : Int) := ⟨q0 % 4, by omega, by rw [Int.tmod_eq_emod_of_nonneg (by omega)]; omega⟩
  obtain ⟨p, hp, hpm⟩ : ∃ p : Nat, (1 : Int) + (m : Int) = (p : Int) ∧ p = m + 1 := ⟨m + 1, by omega, rfl⟩
  replace hpm := Lib.hid hpm
  go_enter Try.func5, Try.ntmps5
  go_wp2_with fail
  refine (HA.out _).mono ?_
  rintro e w1 ⟨rfl, c1⟩
  have h0 := Lib.hid (qs_new w1)
  have cs := Lib.hid c1.size
  replace c1 := Lib.hid (c1.alloc (.cells #[.slice none 0 0, .slice none 0 0, .slice none 0 0, .slice none 0 0, .map none] 29))
  go_wp2_with fail
  rw [← lone_nil m] at h0
  have f0 : ∀ k, k = w1.heap.size → w.heap.size ≤ k := by
    rintro k rfl
    exact cs.out
  generalize w1.heap.size = sB at *
  go_loopw [27] (fun i wr => ∃ j : Nat, j ≤ n ∧ i = .int .i64 j ∧ ∃ O, Ch0 w wr ∧ Qs wr sB O (lone m (ramp j)) (ramp j) ∧ ∀ k, O k → w.heap.size ≤ k) (fun i _ => n - (intOf i).toNat)
  case atStart => exact ⟨0, Nat.zero_le _, rfl, _, c1.out, h0.out, f0⟩
  case round =>
    obtain ⟨j, hj, rfl, O, c2, h2, f2⟩ := hrel
    clear c1 h0 f0
    replace c2 := Lib.hid c2
    replace h2 := Lib.hid h2
    replace f2 := Lib.hid f2
    by_cases hlt : j < n
    · have j1 : (lone m (ramp j) m).length < 4294967296 := by rw [lone_same, ramp_length]; omega
      have i2 : (j : Int) < n := by omega
      go_wp2_with fail
      refine (put_in h2.out m hm4 _ (by have := hpm.out; omega) (3 * (j : Int) + 1) j1).mono ?_
      rintro e w3 ⟨rfl, O3, h3, t3⟩
      rw [if_neg (ramp_not j), if_neg (ramp_not j), lone_same, lone_upd, ← ramp_succ] at h3
      rw [decide_eq_true (ramp_not j)]
      have c3 := Lib.hid (Ch0.turn c2.out t3 f2.out)
      have hl := h3.len m hm4
      rw [lone_same, ramp_length] at hl
      replace h3 := Lib.hid h3
      clear t3 h2 c2 f2 j1
      have i3 : (((j + 1 : Nat) : Int) != (j : Int) + 1) = false := by simp
      go_wp2_with fail
      refine (hl _ (by have := hpm.out; omega)).mono ?_
      rintro e w4 ⟨rfl, hs⟩
      obtain rfl : w3 = w4 := hs
      clear hl
      go_wp2_with fail
      go_roundw
      case rel => exact ⟨j + 1, by omega, by go_num, O3, c3.out.1, h3.out, c3.out.2⟩
      case measure => simp [intOf]; omega
    · obtain rfl : j = n := by omega
      clear hj hlt
      go_wp2_with fail
      go_loopw [56] (fun i wr => ∃ i2 : Nat, i2 ≤ j ∧ i = .int .i64 i2 ∧ ∃ O, Ch0 w wr ∧ Qs wr sB O (lone m ((ramp j).drop i2)) (ramp j) ∧ ∀ k, O k → w.heap.size ≤ k) (fun i _ => j - (intOf i).toNat)
      case atStart => exact ⟨0, Nat.zero_le _, rfl, _, c2.out, h2.out, f2.out⟩
      case round =>
        obtain ⟨i2, hj, rfl, O, c2, h2, f2⟩ := hrel
        replace c2 := Lib.hid c2
        replace h2 := Lib.hid h2
        replace f2 := Lib.hid f2
        have eq1 : lone m ((ramp j).drop i2) m = (ramp j).drop i2 := lone_same _ _
        by_cases hlt : i2 < j
        · replace eq1 := eq1.trans (ramp_drop hlt)
          obtain ⟨m2, hm24, hm2⟩ : ∃ m2 : Nat, m2 < 4 ∧ ((p : Int) + (i2 : Int)).tmod 4 = (m2 : Int) := ⟨(p + i2) % 4, by omega, by rw [Int.tmod_eq_emod_of_nonneg (by omega)]; omega⟩
          go_wp2_with fail
          refine (poll_in h2.out m hm4 _ (by have := hpm.out; omega)).mono ?_
          rintro e w3 ⟨rfl, O3, h3, t3⟩
          rw [eq1] at h3 ⊢
          simp only [List.headD_cons, List.tail_cons, reduceCtorEq, if_false] at h3 ⊢
          rw [lone_upd] at h3
          have c3 := Lib.hid (Ch0.turn c2.out t3 f2.out)
          replace h3 := Lib.hid h3
          clear t3 h2 c2 f2 eq1
          go_wp2_with fail
          refine (put_in h3.out m2 hm24 _ (by omega) (3 * (i2 : Int) + 1) (by have := lone_len m ((ramp j).drop (i2 + 1)) m2; simp [ramp_length] at this; omega)).mono ?_
          rintro e w4 ⟨rfl, O4, h4, t4⟩
          rw [if_pos (ramp_mem hlt), if_pos (ramp_mem hlt)] at h4
          rw [show decide (3 * (i2 : Int) + 1 ∉ ramp j) = false from decide_eq_false (fun q => q (ramp_mem hlt))]
          have c4 := Lib.hid (Ch0.turn c3.out.1 t4 c3.out.2)
          replace h4 := Lib.hid h4
          clear t4 h3 c3
          go_wp2_with fail
          go_roundw
          case rel => exact ⟨i2 + 1, by omega, by go_num, O4, c4.out.1, h4.out, c4.out.2⟩
          case measure => simp [intOf]; omega
        · obtain rfl : i2 = j := by omega
          have e0 : (ramp i2).drop i2 = [] := List.drop_of_length_le (by rw [ramp_length]; exact Nat.le_refl _)
          replace eq1 := eq1.trans e0
          go_wp2_with fail
          refine (poll_in h2.out m hm4 _ (by have := hpm.out; omega)).mono ?_
          rintro e w3 ⟨rfl, O3, h3, t3⟩
          rw [eq1] at h3 ⊢
          simp only [List.headD_nil, List.tail_nil, if_true] at h3 ⊢
          rw [lone_upd, lone_nil] at h3
          have c3 := Lib.hid (Ch0.turn c2.out t3 f2.out)
          have hall := all_in h3 (by rw [cat_nil]; simp)
          rw [cat_nil] at hall
          clear t3 h2 c2 f2 eq1 h3 e0
          go_wp2_with fail
          refine hall.mono ?_
          rintro e w4 ⟨v, rfl, d4, r4, -⟩
          obtain ⟨a4, c4, rfl, -, -⟩ := r4.isSlice
          have d5 := Lib.hid (c3.out.1.trans d4)
          clear hall d4 r4
          go_wp2_with fail
          go_ret
          exact ⟨rfl, d5.out⟩

end Go.Proofs.Ytlmccjmbidfflaa
