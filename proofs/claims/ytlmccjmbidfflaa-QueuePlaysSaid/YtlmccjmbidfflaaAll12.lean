/-
  Contracts of slices.Grow at nil, slices.Concat, (*queue.Set).All.
-/
import Derived.Test.YtlmccjmbidfflaaQ2
import Derived.Lib.AppendZeros
namespace Go.Proofs.Ytlmccjmbidfflaa
set_option linter.unusedVariables false
open Go.RowKit

theorem grow_zero (w : World) : Calls Try.prog 32 #[.slice none 0 0, .int .i64 0] w fun e w' => e = .returned (.slice none 0 0) ∧ Ch0 w w' := by
  go_enter Try.func32, Try.ntmps32
  go_wp2_with fail
  go_ret
  exact ⟨rfl, Ch.refl _ _⟩

theorem grow_some (n : Nat) (hn : 0 < n) (hs : n < 4294967296) (w : World) : Calls Try.prog 32 #[.slice none 0 0, .int .i64 (n : Int)] w fun e w' => ∃ v, e = .returned v ∧ Ch0 w w' ∧ RowAt w' 3 1 v 0 [] ∧ ∃ g, rblk v = some g ∧ w.heap.size ≤ g := by
  have i1 : decide ((n : Int) < 0) = false := decide_eq_false (by omega)
  have i2 : decide ((0 : Int) < (n : Int)) = true := decide_eq_true (by omega)
  obtain ⟨i0, hi, hz0, hz1, hz2⟩ := info_parts Try.info3
  have hrun := Lib.run_append_nil_zeros (P := Try.prog) w 25 3 25 3 i0 _ .i64 .i64 Try.underlying25 Try.underlying3 hi hz0 n hn (by omega) (by omega) (by rw [hz2]; omega)
  have hge := grownCap_ge w n 0 3
  have hcm : grownCap w n 0 3 ≤ maxLen := grownCap_le_maxLen w n 0 3 (by unfold maxLen; omega)
  generalize grownCap w n 0 3 = c at *
  have hend : RowAt (w.drew.alloc (.cells (Builtin.zeroCells (Value.int .i64 0).cells n ++ Builtin.zeroCells (Value.int .i64 0).cells (c - n)) 3)) 3 1 (.slice (some ⟨w.heap.size, 0, none⟩) 0 c) 0 [] := by
    refine ⟨rfl, .inr ⟨w.heap.size, 0, c, _, rfl, heap_alloc_new w.drew _, Nat.zero_le _, hcm, ?_, rfl⟩⟩
    simp [size_zeroCells, Value.cells]
    omega
  have HR := Lib.hid hend
  clear hend hi hz0 hz1 hz2 hcm
  have hzero : 0 ≤ c := Nat.zero_le _
  generalize hW : (w.drew.alloc (.cells (Builtin.zeroCells (Value.int .i64 0).cells n ++ Builtin.zeroCells (Value.int .i64 0).cells (c - n)) 3)) = w2 at *
  have HC : Hid (Ch0 w w2) := by
    rw [← hW]
    exact Lib.hid (((Ch.refl _ _).drew).alloc _)
  clear hW
  go_enter Try.func32, Try.ntmps32
  go_wp2_with (at_builtin; refine wpList_append_run rfl _ _ 25 3 rfl rfl rfl hrun ?_)
  go_wp2_with fail
  go_ret
  exact ⟨_, rfl, HC.out, HR.out, _, rfl, Nat.le_refl _⟩

end Go.Proofs.Ytlmccjmbidfflaa
